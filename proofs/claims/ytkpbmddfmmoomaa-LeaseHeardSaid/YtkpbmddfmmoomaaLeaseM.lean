import Derived.Test.YtkpbmddfmmoomaaLeaseL
/- lease: the law Heard. -/
set_option linter.unusedVariables false
set_option maxRecDepth 20000
namespace Go.Den.Lease
open Go Go.Den
variable {h : Hp} {b r : Nat} {time now : Int} {l : LL} {k : Int} {K : Value → Hp → Prop}

structure Hd (h : Hp) (b r : Nat) (time now : Int) (l : LL) (c : Nat) : Prop where
  t : LAt h b r time now l
  k : Keyed l
  len : l.length ≤ c
  nw : 0 ≤ now
  v : ∀ k v, lget l k = some v → 0 ≤ v ∧ v ≤ now

theorem lput_same {v : Int} (h : (lget l k).isSome = true) : (lput l k v).map (·.1) = l.map (·.1) := by
  induction l with
  | nil => cases h
  | cons x l ih =>
    obtain ⟨a, n⟩ := x
    unfold lput
    split
    · rename_i e; subst e; rfl
    · rename_i e
      rw [lget, if_neg e] at h
      rw [List.map_cons, ih h]; rfl

theorem overs_mem {n : Int} : k ∈ overs time n l ↔ (lget l k).isSome = true ∧ time ≤ n - lval l k := by
  unfold overs
  rw [List.mem_filter, keysOf_mem]
  simp

theorem lval_some {v : Int} (h : lget l k = some v) : lval l k = v := by unfold lval; rw [h]; rfl

theorem tick_keep {c : Nat} {v : Int} (H : Hd h b r time now l c) (hc : c < 1000000) (hn : now < 1000000000) (h7 : lget l k = some v) (ho : now + 1 - v < time)
    (hk : ∀ h' l' a n cap, Hd h' b r time (now + 1) l' c → lget l' k = some v → Step [b, r] h [b, r] h' → K (.slice a n cap) h') :
    HC P lease_Leases_Tick.n #[.pointer (some ⟨b, 0, none⟩)] h K := by
  have hl := H.len
  refine Tick_spec H.t H.k (by omega) ⟨H.nw, hn⟩ H.v fun h' l' a cap o g1 g2 g3 g4 g5 g6 g7 g8 => ?_
  refine hk h' l' a _ cap ⟨g1, g2, by omega, by have := H.nw; omega, fun j u hj => ?_⟩ ?_ (g8.weak (by simp) (by intro k hk; simp at hk ⊢; rcases hk with h | h <;> simp [h]))
  · rw [g4] at hj
    split at hj
    · cases hj
    · have := H.v j u hj; omega
  · rw [g4, if_neg (by rw [overs_mem, lval_some h7]; omega), h7]

theorem tick_over {c : Nat} {v : Int} (H : Hd h b r time now l c) (hc : c < 1000000) (hn : now < 1000000000) (h7 : lget l k = some v) (ho : time ≤ now + 1 - v)
    (hk : ∀ h' l' a cap o (L : List Int), Hd h' b r time (now + 1) l' c → lget l' k = none → k ∈ L → L.length ≤ c → SlAt h' T.uint64 1 Any' a L.length cap (u64s L) o → Step [b, r] h [b, r] h' → K (.slice a L.length cap) h') :
    HC P lease_Leases_Tick.n #[.pointer (some ⟨b, 0, none⟩)] h K := by
  have hl := H.len
  refine Tick_spec H.t H.k (by omega) ⟨H.nw, hn⟩ H.v fun h' l' a cap o g1 g2 g3 g4 g5 g6 g7 g8 => ?_
  have hm : k ∈ overs time (now + 1) l := by rw [overs_mem, lval_some h7, h7]; exact ⟨rfl, by omega⟩
  refine hk h' l' a cap o _ ⟨g1, g2, by omega, by have := H.nw; omega, fun j u hj => ?_⟩ ?_ hm ?_ g5 (g8.weak (by simp) (by intro k hk; simp at hk ⊢; rcases hk with h | h <;> simp [h]))
  · rw [g4] at hj
    split at hj
    · cases hj
    · have := H.v j u hj; omega
  · rw [g4, if_pos hm]
  · unfold overs
    have := List.length_filter_le (fun k => decide (time ≤ now + 1 - lval l k)) (keysOf l)
    rw [keysOf_len] at this
    omega

theorem LeaseHeard_holds {p m : Int} {a0 a1 : Option Addr} {len0 cap0 len1 cap1 : Nat} {gaps : List Int} {acts : List LAct} (hg : SrcAt h 1 (.slice a0 len0 cap0) len0 (gaps.map fun n => .int .i64 n)) (hgN : gaps.length = len0)
    (hs : SrcAt h 2 (.slice a1 len1 cap1) len1 (cellsA acts)) (hN : acts.length = len1) (hl0 : len0 < 9223372036854775808) (hl1 : len1 < 9223372036854775808) :
    HC P law16_LeaseHeard.n #[.int .i64 p, .int .i64 m, .slice a0 len0 cap0, .slice a1 len1 cap1] h (Holds h) := by
  refine law16_LeaseHeard.hc ?_
  unfold law16_LeaseHeard
  refine Pick_spec (n := 9) (by omega) fun n2 hn2 => ⟨_, rfl, ?_⟩
  have hn2 : n2 < 9 := by omega
  unfold law16_LeaseHeard.k32
  refine Pick_spec (n := 9) (by omega) fun n3 hn3 => ⟨_, rfl, ?_⟩
  have hn3 : n3 < 9 := by omega
  have w2 : IntKind.wrap .i64 (1 + (n2 : Int)) = 1 + n2 := wrap_id (by omega) (by omega)
  have w3 : IntKind.wrap .i64 (1 + (n3 : Int)) = 1 + n3 := wrap_id (by omega) (by omega)
  obtain ⟨time, ht⟩ : ∃ time : Int, time = (1 + (n2 : Int)) * (1 + n3) := ⟨_, rfl⟩
  have htime : 1 ≤ time ∧ time ≤ 81 := by
    rw [ht]
    have a1 := Int.mul_le_mul (a := 1 + (n2 : Int)) (b := 1 + (n3 : Int)) (c := 9) (d := 9) (by omega) (by omega) (by omega) (by omega)
    have a2 := Int.mul_le_mul (a := 1) (b := 1) (c := 1 + (n2 : Int)) (d := 1 + (n3 : Int)) (by omega) (by omega) (by omega) (by omega)
    omega
  have wt : IntKind.wrap .i64 (IntKind.wrap .i64 (1 + (n2 : Int)) * IntKind.wrap .i64 (1 + (n3 : Int))) = time := by rw [w2, w3, ← ht]; exact wrap_id (by omega) (by omega)
  unfold law16_LeaseHeard.k31
  rw [w2, w3]
  refine New_spec (by omega) (by omega) fun h0 b r t0 s0 => ⟨_, _, rfl, ?_⟩
  rw [← ht] at t0
  unfold law16_LeaseHeard.k30
  refine bcase_of_false rfl ?_
  unfold law16_LeaseHeard.k29
  refine Join_spec t0 fun h1 t1 s1 => ⟨_, rfl, ?_⟩
  unfold law16_LeaseHeard.k28
  refine bcase_of_false rfl ?_
  have S1 : Step [] h [b, r] h1 := s0.trans (s1.weak (by simp) (by intro k hk; exact .inr (.inl hk)))
  unfold law16_LeaseHeard.k27
  obtain ⟨I0, hI0⟩ : ∃ I0 : List Value → Hp → Prop, I0 = fun vs hh => ∃ (bb : Bool) (i : Nat) (now : Int) (l : LL), vs = [.bool bb, .int .i64 (i : Int)] ∧ i ≤ 60 ∧ i ≤ len0 ∧ Hd hh b r time now l (i + 1) ∧ now ≤ 81 * i ∧ lget l 7 = some now ∧ Step [] h [b, r] hh := ⟨_, rfl⟩
  obtain ⟨x0, hx0⟩ : ∃ x0 : List Value → Hp → Nat, x0 = fun vs _ => match vs with | [_, .int _ i] => len0 - i.toNat | _ => 0 := ⟨_, rfl⟩
  refine ⟨I0, x0, (by
    rw [hI0]
    refine ⟨false, 0, 0, [(7, 0)], rfl, by omega, by omega, ⟨t1, by simp [Keyed], by simp, by omega, fun k v hkv => ?_⟩, by omega, rfl, S1⟩
    rw [lget] at hkv
    split at hkv
    · cases hkv; omega
    · cases hkv), ?_⟩
  intro h2 bb n5 hin
  rw [hI0] at hin
  obtain ⟨b9, i, now, l, he, hi60, hil, H, hnow, h7, S2⟩ := hin
  cases he
  have hnw := H.nw
  -- behind all stretches
  have back : law16_LeaseHeard.k25 bb h2 n2 n3 (some ⟨b, 0, none⟩) (Holds h) := by
    unfold law16_LeaseHeard.k25
    refine ⟨fun vs hh => ∃ (b3 : Bool) (k : Nat) (l' : LL), vs = [.bool b3, .int .i64 (k : Int)] ∧ 1 ≤ k ∧ (k : Int) ≤ time ∧ Hd hh b r time (now + k - 1) l' 61 ∧ lget l' 7 = some now ∧ Step [] h [b, r] hh,
      fun vs _ => match vs with | [_, .int _ i] => 100 - i.toNat | _ => 0, ⟨bb, 1, l, rfl, by omega, by omega, ?_, h7, S2⟩, ?_⟩
    · have := H.len
      rw [show now + ((1 : Nat) : Int) - 1 = now by omega]
      exact ⟨H.t, H.k, by omega, H.nw, H.v⟩
    rintro h3 b3 n16 ⟨b3', k, l3, he, hk1, hkt, H3, h73, S3⟩
    cases he
    rw [wt]
    refine bcase_intro (fun hc => ?_) fun hc => ?_
    · have hc : (k : Int) < time := of_decide_eq_true hc
      unfold law16_LeaseHeard.k14
      refine tick_keep H3 (by omega) (by omega) h73 (by omega) fun h4 l4 a4 n4 c4 H4 h74 S4 => ⟨_, _, _, rfl, ?_⟩
      unfold law16_LeaseHeard.k13
      refine Left_spec H4.t (fun hh => by rw [h74] at hh; cases hh) fun v hv => ⟨_, _, rfl, ?_⟩
      rw [h74] at hv; cases hv
      unfold law16_LeaseHeard.k12
      refine bcase_of_false rfl ?_
      unfold law16_LeaseHeard.k11
      rw [wt]
      have e1 : IntKind.wrap .i64 (now + k - 1 + 1 - now) = k := by rw [show now + (k : Int) - 1 + 1 - now = k by omega]; exact wrap_id (by omega) (by omega)
      rw [e1]
      refine bcase_of_false (by simp) ?_
      unfold law16_LeaseHeard.k2
      have wi : IntKind.wrap .i64 ((k : Int) + 1) = ((k + 1 : Nat) : Int) := by rw [wrap_id (by omega) (by omega)]; omega
      rw [wi]
      refine ⟨⟨b3, k + 1, l4, rfl, by omega, by omega, ?_, h74, S3.trans S4⟩, ?_⟩
      · rw [show now + ((k + 1 : Nat) : Int) - 1 = now + k - 1 + 1 by omega]; exact H4
      · show 100 - ((k + 1 : Nat) : Int).toNat < 100 - (k : Int).toNat
        omega
    · have hc : ¬ (k : Int) < time := of_decide_eq_false hc
      unfold law16_LeaseHeard.k24
      refine tick_over H3 (by omega) (by omega) h73 (by omega) fun h4 l4 a4 c4 o4 L H4 h74 hL hLl sl4 S4 => ⟨_, _, _, rfl, ?_⟩
      unfold law16_LeaseHeard.k23
      refine ⟨fun vs hh => ∃ (bb : Bool) (i : Nat), vs = [.bool bb, .int .i64 (i : Int)] ∧ hh = h4 ∧ i ≤ L.length ∧ (bb = true ↔ (7 : Int) ∈ L.take i), fun vs _ => match vs with | [_, .int _ i] => L.length - i.toNat | _ => 0,
        ⟨false, 0, rfl, rfl, by omega, by simp⟩, ?_⟩
      rintro h5 b5 n5 ⟨b5', j, he, rfl, hj, hb5⟩
      cases he
      have wj : IntKind.wrap .i64 ((j : Int) + 1) = ((j + 1 : Nat) : Int) := by rw [wrap_id (by omega) (by omega)]; omega
      have hms : L.length - ((j + 1 : Nat) : Int).toNat < L.length - (j : Int).toNat ↔ j < L.length := by omega
      refine bcase_intro (fun hc => ?_) fun hc => ?_
      · have hc : j < L.length := by have := of_decide_eq_true hc; omega
        have hg : L[j]? = some L[j] := List.getElem?_eq_getElem hc
        have tk : L.take (j + 1) = L.take j ++ [L[j]] := by rw [List.take_add_one, hg]; rfl
        unfold law16_LeaseHeard.k17
        refine bcase_intro (fun hb => ?_) fun hb => ?_
        · unfold law16_LeaseHeard.k15
          rw [wj]
          refine ⟨⟨true, j + 1, rfl, rfl, by omega, ?_⟩, hms.2 hc⟩
          rw [tk]
          exact ⟨fun _ => List.mem_append_left _ (hb5.1 hb), fun _ => rfl⟩
        · unfold law16_LeaseHeard.k16
          obtain ⟨sb, off, cs, rfl, rfl, -, hcell, -⟩ := sl4.cell hc
          simp only [someD_some, Addr.add_mk, Int.toNat_natCast, Nat.mul_one]
          refine ⟨by omega, by omega, L[j], by rw [hcell]; simp only [u64s, List.getElem?_map, hg]; rfl, ?_⟩
          rw [wj]
          refine ⟨⟨(L[j] == 7), j + 1, rfl, by trivial, by omega, ?_⟩, hms.2 hc⟩
          rw [tk]
          have hn : (7 : Int) ∉ L.take j := fun hm => by rw [hb5.2 hm] at hb; cases hb
          constructor
          · intro e
            have e : L[j] = 7 := by simpa using e
            exact List.mem_append_right _ (by rw [e]; exact List.mem_singleton.2 rfl)
          · intro e
            rcases List.mem_append.1 e with e | e
            · exact absurd e hn
            · have e := List.mem_singleton.1 e
              rw [← e]; simp
      · obtain rfl : j = L.length := by have := of_decide_eq_false hc; omega
        rw [List.take_length] at hb5
        unfold law16_LeaseHeard.k22
        refine bcase_of_true (hb5.2 hL) ?_
        unfold law16_LeaseHeard.k21
        refine Ping_spec H4.t (fun _ => ⟨_, rfl, ?_⟩) fun hh => by rw [h74] at hh; cases hh
        unfold law16_LeaseHeard.k20
        refine bcase_of_true rfl ?_
        unfold law16_LeaseHeard.k19
        refine Leave_spec H4.t fun h6 t6 S6 => ⟨_, rfl, ?_⟩
        unfold law16_LeaseHeard.k18
        rw [h74]
        refine bcase_of_true rfl ?_
        exact awake_spec fun h7' S7 => ⟨_, rfl, rfl, ((S3.trans (S4.trans (S6.weak (by simp) (by intro k hk; exact .inr (.inl hk))))).weak (p := []) (p' := []) (by simp) (by simp)).trans S7⟩
  refine bcase_intro (fun hc => ?_) fun hc => back
  have hc : i < len0 := by have := of_decide_eq_true hc; omega
  unfold law16_LeaseHeard.k26
  by_cases hc2 : i < 60
  rotate_left
  · exact bcase_of_false (decide_eq_false (by omega)) back
  refine bcase_of_true (decide_eq_true (by omega)) ?_
  have wi : IntKind.wrap .i64 ((i : Int) + 1) = ((i + 1 : Nat) : Int) := by rw [wrap_id (by omega) (by omega)]; omega
  -- one stretch of ticks
  have gap : ∀ (I : List Value → Hp → Prop) (x : List Value → Hp → Nat), I = (fun vs hh => ∃ (k : Nat) (l' : LL), vs = [.int .i64 (k : Int)] ∧ (k : Int) < time ∧ Hd hh b r time (now + k) l' (i + 2) ∧ lget l' 7 = some now ∧ Step [] h [b, r] hh) →
      x = (fun vs _ => match vs with | [.int _ i] => 100 - i.toNat | _ => 0) → ∀ (h6 : Hp) (n8 : Int), I [.int .i64 n8] h6 → ((0 : Int) ≤ (i : Int)) ∧ ((i : Int) < (len0 : Int)) ∧ someD a0 (fun p2 => (∃ n9 : Int, ((h6.cell? (p2.add ((i : Int).toNat * 1))) = (some (.int .i64 n9))) ∧ HC P ref01_Pick.n #[.int .i64 n9, .int .i64 time] h6 (fun v5 h7 => (∃ n10 : Int, (v5 = (.int .i64 n10)) ∧ (law16_LeaseHeard.k5 n8 n10 (some ⟨b, 0, none⟩) h7 I x h6 (Holds h) I0 bb (i : Int) x0 h2))))) := by
    rintro I x hI hx h6 n8 hin
    rw [hI] at hin
    obtain ⟨k, l6, he, hkt, H6, h76, S6⟩ := hin
    cases he
    refine ⟨by omega, by omega, ?_⟩
    obtain ⟨p0, rfl, hp0⟩ := (hg.sub S6.sub0).get hc
    simp only [someD_some, Int.toNat_natCast]
    refine ⟨gaps[i], by rw [hp0]; simp [List.getElem?_eq_getElem (l := gaps) (i := i) (by omega)], ?_⟩
    obtain ⟨tn, htn⟩ : ∃ tn : Nat, time = tn := ⟨time.toNat, by omega⟩
    rw [htn]
    refine Pick_spec (by omega) fun n10 hn10 => ⟨_, rfl, ?_⟩
    have hn10 : (n10 : Int) < time := by omega
    unfold law16_LeaseHeard.k5
    refine bcase_intro (fun hc => ?_) fun hc => ?_
    · have hc : (k : Int) < n10 := of_decide_eq_true hc
      unfold law16_LeaseHeard.k1
      refine tick_keep H6 (by omega) (by omega) h76 (by omega) fun h7 l7 a7 n7 c7 H7 h77 S7 => ⟨_, _, _, rfl, ?_⟩
      unfold law16_LeaseHeard.k0
      have wk : IntKind.wrap .i64 ((k : Int) + 1) = ((k + 1 : Nat) : Int) := by rw [wrap_id (by omega) (by omega)]; omega
      rw [wk, hI, hx]
      refine ⟨⟨k + 1, l7, rfl, by omega, ?_, h77, S6.trans S7⟩, ?_⟩
      · rw [show now + ((k + 1 : Nat) : Int) = now + k + 1 by omega]; exact H7
      · show 100 - ((k + 1 : Nat) : Int).toNat < 100 - (k : Int).toNat
        omega
    · unfold law16_LeaseHeard.k4
      refine Ping_spec H6.t (fun hh => by rw [h76] at hh; cases hh) fun _ h7 t7 S7 => ⟨_, rfl, ?_⟩
      unfold law16_LeaseHeard.k3
      refine bcase_of_false rfl ?_
      unfold law16_LeaseHeard.k2
      rw [wi, hI0, hx0]
      refine ⟨⟨bb, i + 1, now + k, lput l6 7 (now + k), rfl, by omega, by omega, ⟨t7, lput_keyed H6.k, ?_, H6.nw, fun j v hj => ?_⟩, by omega, ?_, S6.trans (S7.weak (by simp) (by intro k hk; exact .inr (.inl hk)))⟩, ?_⟩
      · have h1 : (lput l6 7 (now + k)).map (·.1) = l6.map (·.1) := lput_same (by rw [h76]; rfl)
        have h2 := congrArg List.length h1
        simp at h2
        have := H6.len
        omega
      · rw [lget_lput] at hj
        split at hj
        · cases hj; have := H6.nw; omega
        · exact H6.v j v hj
      · rw [lget_lput, if_pos rfl]
      · show len0 - ((i + 1 : Nat) : Int).toNat < len0 - (i : Int).toNat
        omega
  have other : law16_LeaseHeard.k8 h2 (i : Int) len0 a0 n2 n3 (some ⟨b, 0, none⟩) (Holds h) I0 bb x0 := by
    unfold law16_LeaseHeard.k8
    rw [wt]
    refine ⟨_, _, ⟨0, l, rfl, by omega, ?_, h7, S2⟩, gap _ _ rfl rfl⟩
    have := H.len
    exact ⟨by rw [show now + ((0 : Nat) : Int) = now by omega]; exact H.t, H.k, by omega, by omega, by rw [show now + ((0 : Nat) : Int) = now by omega]; exact H.v⟩
  unfold law16_LeaseHeard.k10
  refine bcase_intro (fun hc3 => ?_) fun hc3 => other
  have hc3 : i < len1 := by have := of_decide_eq_true hc3; omega
  unfold law16_LeaseHeard.k9
  obtain ⟨p1, rfl, hp1⟩ := (hs.sub S2.sub0).part hc3
  obtain ⟨ac, ha⟩ : ∃ a, acts[i]? = some a := ⟨_, List.getElem?_eq_getElem (by omega)⟩
  rw [cellsA_part ha] at hp1
  have ckey : h2.cell? ((p1.add (i * 2)).add 1) = some (.int .u64 ac.key) := hp1.2 1 _ rfl
  simp only [someD_some, Int.toNat_natCast]
  refine ⟨by omega, by omega, _, ckey, bcase_intro (fun hk7 => ?_) fun _ => other⟩
  have hk7 : (7 : Int) ≠ ac.key := by intro e; rw [← e] at hk7; simp at hk7
  unfold law16_LeaseHeard.k7
  simp only [someD_some, Int.toNat_natCast]
  refine ⟨by omega, by omega, _, ckey, ?_⟩
  refine Join_spec H.t fun h3 t3 S3 => ⟨_, rfl, ?_⟩
  unfold law16_LeaseHeard.k6
  rw [wt]
  refine ⟨_, _, ⟨0, lput l ac.key now, rfl, by omega, ?_, by rw [lget_lput, if_neg hk7, h7], S2.trans (S3.weak (by simp) (by intro k hk; exact .inr (.inl hk)))⟩, gap _ _ rfl rfl⟩
  have := H.len
  have := lput_len (l := l) (k := ac.key) (v := now)
  rw [show now + ((0 : Nat) : Int) = now by omega]
  refine ⟨t3, lput_keyed H.k, by omega, by omega, fun j v hj => ?_⟩
  rw [lget_lput] at hj
  split at hj
  · cases hj; omega
  · exact H.v j v hj

theorem LeaseHeard_said {p m : Int} {sa0 sa1 : Option Addr} {len0 cap0 len1 cap1 : Nat} (hp : (Lit.int .i64 p).wf = true) (hm : (Lit.int .i64 m).wf = true) (g0 : IntsGiven h (.slice sa0 len0 cap0) len0) (g : LActGiven h (.slice sa1 len1 cap1) len1) :
    HC P law16_LeaseHeard.n #[.int .i64 p, .int .i64 m, .slice sa0 len0 cap0, .slice sa1 len1 cap1] h (Holds h) := by
  obtain ⟨xs, f1, f2, f3⟩ := g0
  obtain ⟨acts, g1, g2, g3⟩ := g
  exact LeaseHeard_holds f3 f1 g3 g1 f2 g2
end Go.Den.Lease
