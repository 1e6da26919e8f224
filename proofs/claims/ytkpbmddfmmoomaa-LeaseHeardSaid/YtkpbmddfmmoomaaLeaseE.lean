import Derived.Test.YtkpbmddfmmoomaaLeaseD
/- lease: the document's example; the law Nil. -/
set_option linter.unusedVariables false
set_option maxRecDepth 20000
namespace Go.Den.Lease
open Go Go.Den

theorem overs_eq {time n : Int} {l X : LL} (hk : Keyed l) (hS : SX X) (he : ∀ k, lget l k = lget X k) : overs time n l = (X.filter fun p => decide (time ≤ n - p.2)).map (·.1) := by
  unfold overs
  rw [(rows_eq hk hS he).2, List.filter_map]
  congr 1
  apply List.filter_congr
  intro p hp
  obtain ⟨i, hi⟩ := List.mem_iff_getElem?.1 hp
  show decide (time ≤ n - lval l p.1) = _
  unfold lval
  rw [he, lget_at hS.keyed hi]; rfl

variable {h : Hp} {b r : Nat} {time now : Int} {l : LL} {k : Int} {K : Value → Hp → Prop}

theorem longs_get {ks : List Int} {i : Nat} {x : Int} (h : ks[i]? = some x) : (u64s ks)[i]? = some (.int .u64 x) := by simp [u64s, h]

theorem SameLongs_spec {a1 a2 : Option Addr} {c1 c2 : Nat} {ks : List Int} (s1 : SrcAt h 1 (.slice a1 ks.length c1) ks.length (u64s ks)) (s2 : SrcAt h 1 (.slice a2 ks.length c2) ks.length (u64s ks)) (hL : ks.length < 1000000)
    (hk : K (.bool true) h) : HC P ref01_SameLongs.n #[.slice a1 ks.length c1, .slice a2 ks.length c2] h K := by
  refine ref01_SameLongs.hc ?_
  unfold ref01_SameLongs
  refine bcase_of_false (by simp) ?_
  unfold ref01_SameLongs.k2
  refine ⟨fun vs hh => ∃ (bb : Bool) (i : Nat), vs = [.bool bb, .int .i64 (i : Int)] ∧ hh = h ∧ i ≤ ks.length, fun vs _ => match vs with | [_, .int _ i] => ks.length - i.toNat | _ => 0, ⟨false, 0, rfl, rfl, by omega⟩, ?_⟩
  rintro h0 bb n0 ⟨b9, i, he, rfl, hi⟩
  cases he
  refine bcase_intro (fun hc => ?_) fun hc => hk
  have hc : i < ks.length := by have := of_decide_eq_true hc; omega
  have hp : ks[i]? = some ks[i] := List.getElem?_eq_getElem hc
  obtain ⟨p1, rfl, hp1⟩ := s1.get hc
  obtain ⟨p2, rfl, hp2⟩ := s2.get hc
  rw [longs_get hp] at hp1 hp2
  unfold ref01_SameLongs.k1
  simp only [someD_some, Int.toNat_natCast]
  refine ⟨by omega, by omega, _, hp1, by omega, by omega, _, hp2, ?_⟩
  refine bcase_of_false (by simp) ?_
  unfold ref01_SameLongs.k0
  have wi : IntKind.wrap .i64 ((i : Int) + 1) = ((i + 1 : Nat) : Int) := by rw [wrap_id (by omega) (by omega)]; omega
  rw [wi]
  refine ⟨⟨bb, i + 1, rfl, rfl, by omega⟩, ?_⟩
  show ks.length - ((i + 1 : Nat) : Int).toNat < ks.length - (i : Int).toNat
  omega

/-- A tick behind which nobody is over. -/
theorem Tick_none {X : LL} (t : LAt h b r time now l) (hkd : Keyed l) (hS : SX X) (he : ∀ k, lget l k = lget X k) (hn : 0 ≤ now ∧ now < 1000000000) (hv : ∀ k v, lget l k = some v → 0 ≤ v ∧ v ≤ now) (hL : l.length < 1000000) (ho : (X.filter fun p => decide (time ≤ now + 1 - p.2)) = [])
    (hk : ∀ h' l' a cap o, LAt h' b r time (now + 1) l' → Keyed l' → l'.length ≤ l.length → (∀ j, lget l' j = lget X j) → Step [b, r] h (b :: r :: o) h' → K (.slice a 0 cap) h') :
    HC P lease_Leases_Tick.n #[.pointer (some ⟨b, 0, none⟩)] h K := by
  have e : overs time (now + 1) l = [] := by rw [overs_eq hkd hS he, ho]; rfl
  refine Tick_spec t hkd hL hn hv fun h' l' a cap o g1 g2 g3 g4 g5 g6 g7 g8 => ?_
  rw [e] at g4 ⊢
  exact hk h' l' a cap o g1 g2 g3 (fun j => by rw [g4, if_neg (by simp), he]) g8

theorem awake_spec (hk : ∀ h', Step [] h [] h' → K (.bool true) h') : HC P law16_awake.n #[] h K := by
  refine law16_awake.hc ?_
  unfold law16_awake
  refine New_spec (p := 2) (m := 2) (by omega) (by omega) fun h0 b r t0 s0 => ⟨_, _, rfl, ?_⟩
  unfold law16_awake.k11
  refine bcase_of_false rfl ?_
  unfold law16_awake.k10
  refine Join_spec t0 fun h1 t1 s1 => ⟨_, rfl, ?_⟩
  unfold law16_awake.k9
  refine bcase_of_false rfl ?_
  unfold law16_awake.k8
  obtain ⟨X, hX⟩ : ∃ X : LL, X = [(5, 0)] := ⟨_, rfl⟩
  have e1 : lput [] 5 0 = X := by rw [hX]; rfl
  rw [e1] at t1
  have hS : SX X := by rw [hX]; simp [SX]
  have S1 : Step [] h [b, r] h1 := s0.trans (s1.weak (by simp) (by intro k hk; exact .inr (.inl hk)))
  have hv : ∀ {l : LL} (n : Int), 0 ≤ n → (∀ j, lget l j = lget X j) → ∀ k v, lget l k = some v → 0 ≤ v ∧ v ≤ n := by
    intro l n hn he k v hkv
    rw [he, hX, lget] at hkv
    split at hkv
    · cases hkv; exact ⟨by omega, hn⟩
    · cases hkv
  refine Tick_none (X := X) t1 hS.keyed hS (fun _ => rfl) (by omega) (hv 0 (by omega) fun _ => rfl) (by rw [hX]; simp) (by rw [hX]; decide) fun h2 l2 a2 c2 o2 t2 k2 n2 g2 s2 => ⟨_, _, _, rfl, ?_⟩
  have hl2 : l2.length < 1000000 := by rw [hX] at n2; simp at n2; omega
  unfold law16_awake.k7
  refine Tick_none (X := X) t2 k2 hS g2 (by omega) (hv _ (by omega) g2) hl2 (by rw [hX]; decide) fun h3 l3 a3 c3 o3 t3 k3 n3 g3 s3 => ⟨_, _, _, rfl, ?_⟩
  unfold law16_awake.k6
  refine Tick_none (X := X) t3 k3 hS g3 (by omega) (hv _ (by omega) g3) (by omega) (by rw [hX]; decide) fun h4 l4 a4 c4 o4 t4 k4 n4 g4 s4 => ⟨_, _, _, rfl, ?_⟩
  unfold law16_awake.k5
  refine bcase_of_false (by decide) ?_
  unfold law16_awake.k4
  have h5 : lget l4 5 = some 0 := by rw [g4, hX]; rfl
  refine Left_spec t4 (fun hh => by rw [h5] at hh; cases hh) fun v hv5 => ⟨_, _, rfl, ?_⟩
  rw [h5] at hv5; cases hv5
  unfold law16_awake.k3
  refine bcase_of_true (by decide) ?_
  unfold law16_awake.k2
  refine bcase_of_true rfl ?_
  unfold law16_awake.k1
  have eo : overs (2 * 2) (0 + 1 + 1 + 1 + 1) l4 = [5] := by rw [overs_eq k4 hS g4, hX]; decide
  refine Tick_spec t4 k4 (by omega) (by omega) (hv _ (by omega) g4) fun h5' l5 a5 c5 o5 t5 k5 n5 g5 sl5 b5 r5 s5 => ⟨_, _, _, rfl, ?_⟩
  rw [eo] at sl5 ⊢
  unfold law16_awake.k0
  intro b1 hb1
  have n1o : b1 ∉ o5 := fun hm => sl5.mem b1 hm hb1
  have sl6 : SlAt (h5'.put b1 (.cells #[.int .u64 5] T.uint64 (0, 0))) T.uint64 1 Any' a5 [5].length c5 (u64s [5]) o5 := sl5.keep fun k hk => by
    have q : k ≠ b1 := fun e => n1o (e ▸ hk)
    rw [put_ne q]
  refine SameLongs_spec (ks := [5]) sl6.src (.some ⟨by simp [u64s], fun j v hv => ?_⟩) (by simp) ⟨_, rfl, ?_⟩
  · rw [Addr.add_mk, cell_of put_self]; simpa [u64s] using hv
  · refine hk _ ?_
    have q : ∀ {o : List Nat} {ha hb : Hp}, Step [b, r] ha (b :: r :: o) hb → Step [b, r] ha [b, r] hb := fun s => s.weak (by simp) (by intro k hk; simp at hk ⊢; rcases hk with h | h <;> simp [h])
    exact (((((S1.trans (q s2)).trans (q s3)).trans (q s4)).trans (q s5)).trans (Step.put (.inr hb1))).weak (by simp) (by simp)

theorem LeaseNil_holds : HC P law16_LeaseNil.n #[.int .u64 k] h (Holds h) := by
  refine law16_LeaseNil.hc ?_
  unfold law16_LeaseNil
  refine lease_Leases_Left.hc (has_nil ⟨_, rfl, bcase_of_true rfl ⟨_, _, rfl, ?_⟩⟩)
  unfold law16_LeaseNil.k13
  refine lease_Leases_Join.hc (bcase_of_true rfl ⟨_, rfl, ?_⟩)
  unfold law16_LeaseNil.k12
  refine bcase_of_true rfl ?_
  unfold law16_LeaseNil.k11
  refine lease_Leases_Ping.hc (has_nil ⟨_, rfl, bcase_of_true rfl ⟨_, rfl, ?_⟩⟩)
  unfold law16_LeaseNil.k10
  refine bcase_of_true rfl ?_
  unfold law16_LeaseNil.k9
  refine lease_Leases_Leave.hc (has_nil ⟨_, rfl, bcase_of_false rfl ⟨_, rfl, ?_⟩⟩)
  unfold law16_LeaseNil.k8
  refine bcase_of_true rfl ?_
  unfold law16_LeaseNil.k7
  refine bcase_of_true rfl ?_
  unfold law16_LeaseNil.k6
  refine bcase_of_true rfl ?_
  unfold law16_LeaseNil.k5
  refine Tick_nil fun h1 s1 => ⟨_, _, _, rfl, ?_⟩
  unfold law16_LeaseNil.k4
  refine bcase_of_true rfl ?_
  unfold law16_LeaseNil.k3
  refine lease_Leases_Now.hc (bcase_of_true rfl ⟨_, rfl, ?_⟩)
  unfold law16_LeaseNil.k2
  refine bcase_of_true rfl ?_
  unfold law16_LeaseNil.k1
  refine told_nil fun h2 s2 => ⟨_, _, _, rfl, ?_⟩
  unfold law16_LeaseNil.k0
  refine bcase_of_true rfl ?_
  exact awake_spec fun h3 s3 => ⟨_, rfl, rfl, (s1.trans s2).trans s3⟩

theorem LeaseNil_said {k : Int} (hk : (Lit.int .u64 k).wf = true) : HC P law16_LeaseNil.n #[.int .u64 k] h (Holds h) := LeaseNil_holds
end Go.Den.Lease
