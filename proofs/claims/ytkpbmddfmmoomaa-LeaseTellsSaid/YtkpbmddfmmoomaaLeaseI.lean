import Derived.Test.YtkpbmddfmmoomaaLeaseH
/- lease: an act at both. -/
set_option linter.unusedVariables false
set_option maxRecDepth 20000
namespace Go.Den.Lease
open Go Go.Den

structure Both (h : Hp) (b r xb : Nat) (time now : Int) (l X : LL) (a : Option Addr) (c : Nat) (os : List Nat) (n : Nat) : Prop where
  t : LAt h b r time now l
  x : RAt h xb time now X a c os
  k : Keyed l
  s : SX X
  e : ∀ k, lget l k = lget X k
  len : X.length ≤ n
  v : ∀ p ∈ X, 0 ≤ p.2 ∧ p.2 ≤ now
  nw : 0 ≤ now ∧ now ≤ n
  bx : b ≠ xb
  rx : r ≠ xb
  bo : b ∉ os
  ro : r ∉ os

variable {h : Hp} {b r xb n : Nat} {time now : Int} {l X : LL} {a : Option Addr} {c : Nat} {os : List Nat} {K : Value → Hp → Prop}

theorem Both.keep {h' : Hp} {o : List Nat} (B : Both h b r xb time now l X a c os n) (s : Step [] h o h') : Both h' b r xb time now l X a c os n :=
  { B with t := B.t.keep s, x := B.x.keep s }
theorem Both.ll (B : Both h b r xb time now l X a c os n) : l.length = X.length := by
  have := (rows_eq B.k B.s B.e).2
  rw [← keysOf_len, this]; simp
theorem Both.vl (B : Both h b r xb time now l X a c os n) : ∀ k v, lget l k = some v → 0 ≤ v ∧ v ≤ now := by
  intro k v hv
  rw [B.e] at hv
  have hm : k ∈ X.map (·.1) := lget_mem.2 (by rw [hv]; rfl)
  obtain ⟨p, hp, rfl⟩ := List.mem_map.1 hm
  obtain ⟨i, hi⟩ := List.mem_iff_getElem?.1 hp
  rw [lget_at B.s.keyed hi] at hv
  cases hv
  exact B.v p hp

theorem RAt.mapStep (x : RAt h xb time now X a c os) (hx : xb ≠ r) (ho : r ∉ os) {h' : Hp} (s : Step [r] h [r] h') : RAt h' xb time now X a c os :=
  ⟨s.block x.blk (by simpa using hx), x.sl.keep fun k hk => s.keep k (x.sl.mem k hk) (by simp; exact fun e => ho (e ▸ hk)), x.ne⟩

theorem mem_filter_keys {f : Int × Int → Bool} {X : LL} (hS : SX X) (j : Int) : j ∈ (X.filter f).map (·.1) ↔ ∃ v, lget X j = some v ∧ f (j, v) = true := by
  rw [lget_mem, lget_filter hS.keyed]
  cases lget X j with
  | none => simp
  | some v => simp [Option.filter]

theorem vals_of {X X' : LL} {now : Int} (hv : ∀ p ∈ X, 0 ≤ p.2 ∧ p.2 ≤ now) (hS : SX X) (hS' : SX X') (hl : ∀ j v, lget X' j = some v → (v = now ∨ lget X j = some v)) (hn : 0 ≤ now) : ∀ p ∈ X', 0 ≤ p.2 ∧ p.2 ≤ now := by
  intro p hp
  obtain ⟨i, hi⟩ := List.mem_iff_getElem?.1 hp
  rcases hl p.1 p.2 (lget_at hS'.keyed hi) with e | e
  · omega
  · have hm : p.1 ∈ X.map (·.1) := lget_mem.2 (by rw [e]; rfl)
    obtain ⟨q, hq, hqe⟩ := List.mem_map.1 hm
    obtain ⟨j, hj⟩ := List.mem_iff_getElem?.1 hq
    have := lget_at hS.keyed (k := q.1) (v := q.2) hj
    rw [hqe, e] at this
    have e2 := Option.some.inj this
    have := hv q hq
    omega

theorem do_spec (B : Both h b r xb time now l X a c os n) (hn : n < 1000) {kind key : Int}
    (hk : ∀ h' now' l' X' a' c' os', Both h' b r xb time now' l' X' a' c' os' (n + 1) → Step (b :: r :: xb :: os) h (b :: r :: xb :: os') h' → K (.bool true) h') :
    HC P law16_do.n #[.pointer (some ⟨b, 0, none⟩), .pointer (some ⟨xb, 0, none⟩), .agg #[.int .i64 kind, .int .u64 key]] h K := by
  refine law16_do.hc ?_
  unfold law16_do
  intro b1 hb1
  obtain ⟨h1, hh1⟩ : ∃ h1, h1 = h.put b1 (.cells #[.int .i64 kind, .int .u64 key] T.tenonlaw16_Act (0, 0)) := ⟨_, rfl⟩
  have B1 : h1 b1 = some (.cells #[.int .i64 kind, .int .u64 key] T.tenonlaw16_Act (0, 0)) := by rw [hh1]; exact put_self
  have S1 : Step [] h [] h1 := by rw [hh1]; exact Step.put (.inr hb1)
  have W := B.keep S1
  have n1r : b1 ≠ r := fun e => B.t.map.ne (e ▸ hb1)
  have hXl : X.length < 1000000 := by have := B.len; omega
  have hbx : b ∉ xb :: os := by simp [B.bx, B.bo]
  have hrx : r ∉ xb :: os := by simp [B.rx, B.ro]
  have S1' : Step (b :: r :: xb :: os) h (b :: r :: xb :: os) h1 := S1.weak (by simp) (by intro k hk; exact .inr (.inl hk))
  rw [← hh1]
  have kB : ∀ h3, Step [r] h1 [r] h3 → h3.cell? ((⟨b1, 0, none⟩ : Addr).add 1) = some (.int .u64 key) := fun h3 s3 => by
    rw [Addr.add_mk, cell_of (s3.block B1 (by simpa using n1r))]; rfl
  have kB1 := kB h1 (Step.refl _ _)
  -- what is left behind a step of the map and one of the document's
  have fin : ∀ (h3 h4 : Hp) (l' X' : LL) (a' : Option Addr) (c' : Nat) (os' : List Nat), LAt h3 b r time now l' → Step [r] h1 [r] h3 → RAt h4 xb time now X' a' c' os' → Step (xb :: os) h3 (xb :: os') h4 → Keyed l' → SX X' → (∀ k, lget l' k = lget X' k) → X'.length ≤ X.length + 1 → (∀ j v, lget X' j = some v → (v = now ∨ lget X j = some v)) →
      Both h4 b r xb time now l' X' a' c' os' (n + 1) ∧ Step (b :: r :: xb :: os) h (b :: r :: xb :: os') h4 := by
    intro h3 h4 l' X' a' c' os' t3 s3 x4 s4 k4 sx e4 le4 v4
    have nin : ∀ k, k ∉ xb :: os → h3 k ≠ none → k ∉ os' := fun k hk hne hm => (s4.own k (by simp [hm])).elim hk hne
    refine ⟨⟨t3.step s4 hbx hrx, x4, k4, sx, e4, by have := B.len; omega, vals_of B.v B.s sx v4 B.nw.1, ⟨B.nw.1, by have := B.nw.2; omega⟩, B.bx, B.rx, nin b hbx (by rw [t3.blk]; simp), nin r hrx t3.map.ne⟩, ?_⟩
    refine S1'.trans ?_
    refine (s3.weak (p := b :: r :: xb :: os) (p' := b :: r :: xb :: os) (by simp) (by intro k hk; exact .inr (.inl hk))).trans ?_
    exact (s4.frame [b, r]).weak (by intro k hk; simp at hk ⊢; rcases hk with h | h | h | h <;> simp [h]) (by intro k hk; simp at hk ⊢; rcases hk with h | h | h | h <;> simp [h])
  refine ⟨key, kB1, ?_⟩
  -- the place, whatever it is
  have rest : ∀ n3 : Int, (∀ i v, X[i]? = some (key, v) → n3 = (i : Nat) ∨ True) → ((lget X key = none ∧ n3 = -1) ∨ ∃ (i : Nat) (v : Int), X[i]? = some (key, v) ∧ n3 = i) →
      ∃ n4 : Int, h1.cell? ((⟨b1, 0, none⟩ : Addr).add 0) = some (.int .i64 n4) ∧ law16_do.k16 n4 h1 b1 (some ⟨b, 0, none⟩) (some ⟨xb, 0, none⟩) K n3 := by
    intro n3 _ hn3
    refine ⟨kind, by rw [Addr.add_mk, cell_of B1]; rfl, ?_⟩
    unfold law16_do.k16
    refine Pick_spec (n := 5) (by omega) fun m hm => ⟨_, rfl, ?_⟩
    unfold law16_do.k15
    refine bcase_intro (fun _ => ?_) fun _ => ?_
    · -- Join
      unfold law16_do.k1
      have J : ∀ h3, LAt h3 b r time now (lput l key now) → Step [r] h1 [r] h3 → law16_do.k0 (some ⟨xb, 0, none⟩) key h3 K (!(lget l key).isSome) := by
        intro h3 t3 s3
        unfold law16_do.k0
        refine rJoin_spec (W.x.mapStep (Ne.symm B.rx) B.ro s3) B.s hXl fun h4 X4 a4 c4 o4 x4 sx e4 l4 s4 => ⟨_, rfl, ?_⟩
        obtain ⟨F1, F2⟩ := fin h3 h4 _ X4 a4 c4 o4 t3 s3 x4 s4 (lput_keyed B.k) sx (fun k => by rw [lget_lput, e4, B.e]) l4 (fun j v hv => by
          rw [e4] at hv
          split at hv
          · cases hv; exact .inl rfl
          · exact .inr hv)
        rw [B.e]
        simp only [beq_self_eq_true]
        exact hk _ _ _ _ _ _ _ F1 F2
      exact ⟨key, kB1, Join_spec W.t fun h3 t3 s3 => ⟨_, rfl, key, kB h3 s3, J h3 t3 s3⟩, key, kB1, Join_spec W.t fun h3 t3 s3 => ⟨_, rfl, J h3 t3 s3⟩⟩
    unfold law16_do.k14
    refine bcase_intro (fun _ => ?_) fun _ => ?_
    · -- Ping
      unfold law16_do.k7
      refine ⟨key, kB1, ?_⟩
      rcases hn3 with ⟨hnone, rfl⟩ | ⟨i, v, hi, rfl⟩
      · have hln : lget l key = none := by rw [B.e, hnone]
        refine Ping_spec W.t (fun _ => ⟨_, rfl, ?_⟩) fun hs => by rw [hln] at hs; cases hs
        unfold law16_do.k6
        refine bcase_of_false (by decide) ?_
        unfold law16_do.k5
        refine bcase_of_true (by decide) (bcase_of_false (by decide) ?_)
        obtain ⟨F1, F2⟩ := fin h1 h1 l X a c os W.t (Step.refl _ _) W.x (Step.refl _ _) B.k B.s B.e (by omega) (fun j v hv => .inr hv)
        exact hk _ _ _ _ _ _ _ F1 F2
      · have hls : lget l key = some v := by rw [B.e, lget_at B.s.keyed hi]
        refine Ping_spec W.t (fun hs => by rw [hls] at hs; cases hs) fun _ h3 t3 s3 => ⟨_, rfl, ?_⟩
        have x3 := W.x.mapStep (Ne.symm B.rx) B.ro s3
        have hlt := (List.getElem?_eq_some_iff.1 hi).1
        unfold law16_do.k6
        refine bcase_of_true (decide_eq_true (by omega)) ?_
        unfold law16_do.k4
        simp only [someD_some, Addr.add_mk, Nat.zero_add, Int.toNat_natCast]
        obtain ⟨p, rfl, hu, hf, x4, s4⟩ := x3.put hi now
        refine ⟨_, _, _, x3.c2, _, x3.c1, by omega, by omega, ?_⟩
        simp only [someD_some]
        refine ⟨hu, hf, bcase_of_true (by rw [decide_eq_true (show (0 : Int) ≤ (i : Int) by omega)]; rfl) ?_⟩
        unfold law16_do.k3
        refine bcase_of_true rfl ?_
        rw [Int.toNat_natCast]
        have hset : ∀ j, lget (X.set i (key, now)) j = if j = key then some now else lget X j := lget_set_at B.s.keyed hi
        obtain ⟨F1, F2⟩ := fin h3 _ _ (X.set i (key, now)) _ c os t3 s3 x4 s4 (lput_keyed B.k) (by unfold SX; rw [keys_set hi]; exact B.s) (fun k => by rw [lget_lput, hset, B.e]) (by simp) (fun j v hv => by
          rw [hset] at hv
          split at hv
          · cases hv; exact .inl rfl
          · exact .inr hv)
        exact hk _ _ _ _ _ _ _ F1 F2
    unfold law16_do.k13
    refine bcase_intro (fun _ => ?_) fun _ => ?_
    · -- Leave
      unfold law16_do.k9
      have J : ∀ h3, LAt h3 b r time now (ldel l key) → Step [r] h1 [r] h3 → law16_do.k8 (some ⟨xb, 0, none⟩) key h3 K (lget l key).isSome := by
        intro h3 t3 s3
        unfold law16_do.k8
        refine rLeave_spec (W.x.mapStep (Ne.symm B.rx) B.ro s3) hXl fun h4 a4 c4 o4 x4 s4 => ⟨_, rfl, ?_⟩
        have hf : ∀ j, lget (X.filter fun p => p.1 != key) j = if j = key then none else lget X j := fun j => by
          rw [lget_filter B.s.keyed]
          by_cases hj : j = key
          · rw [if_pos hj, hj]; cases lget X key <;> simp [Option.filter]
          · rw [if_neg hj]; cases lget X j <;> simp [Option.filter, hj]
        obtain ⟨F1, F2⟩ := fin h3 h4 _ (X.filter fun p => p.1 != key) a4 c4 o4 t3 s3 x4 s4 (ldel_keyed B.k) (B.s.filter _) (fun k => by rw [lget_ldel B.k, hf, B.e]) (Nat.le_trans (List.length_filter_le _ _) (by omega)) (fun j v hv => by
          rw [hf] at hv
          split at hv
          · cases hv
          · exact .inr hv)
        rw [left_less, B.e]
        simp only [beq_self_eq_true]
        exact hk _ _ _ _ _ _ _ F1 F2
      exact ⟨key, kB1, Leave_spec W.t fun h3 t3 s3 => ⟨_, rfl, key, kB h3 s3, J h3 t3 s3⟩, key, kB1, Leave_spec W.t fun h3 t3 s3 => ⟨_, rfl, J h3 t3 s3⟩⟩
    · -- Tick
      unfold law16_do.k12
      have hnw := B.nw
      refine Tick_spec W.t B.k (by rw [B.ll]; exact hXl) (by omega) B.vl fun h3 l3 a3 c3 o3 t3 k3 n3' g3 sl3 db dr s3 => ⟨_, _, _, rfl, ?_⟩
      have eO := overs_eq (time := time) (n := now + 1) B.k B.s B.e
      rw [eO] at g3 sl3 ⊢
      have hx3 : ∀ k, h1 k ≠ none → k ≠ b → k ≠ r → h3 k = h1 k ∧ k ∉ o3 := fun k hk h1 h2 => ⟨s3.keep k hk (by simp [h1, h2]), fun hm => by
        rcases s3.own k (by simp [hm]) with hx | hx
        · simp [h1, h2] at hx
        · exact hk hx⟩
      have hxb := hx3 xb (by rw [W.x.blk]; simp) (Ne.symm B.bx) (Ne.symm B.rx)
      have hxo : ∀ k ∈ os, h3 k = h1 k ∧ k ∉ o3 := fun k hk => hx3 k (W.x.sl.mem k hk) (fun e => B.bo (e ▸ hk)) (fun e => B.ro (e ▸ hk))
      have x3 : RAt h3 xb time now X a c os := ⟨by rw [hxb.1]; exact W.x.blk, W.x.sl.keep fun k hk => (hxo k hk).1, B.x.ne⟩
      unfold law16_do.k11
      refine rTick_spec x3 hXl (by omega) B.v fun h4 a4 c4 o4 a5 c5 o5 x4 sl5 s4 dj => ⟨_, _, _, rfl, ?_⟩
      have sl3' : SlAt h4 T.uint64 1 Any' a3 ((X.filter fun p => decide (time ≤ now + 1 - p.2)).map (·.1)).length c3 (u64s ((X.filter fun p => decide (time ≤ now + 1 - p.2)).map (·.1))) o3 := sl3.keep fun k hk => s4.keep k (sl3.mem k hk) (by
        simp only [List.mem_cons, not_or]
        exact ⟨fun e => hxb.2 (e ▸ hk), fun hm => (hxo k hm).2 hk⟩)
      unfold law16_do.k10
      refine SameLongs_spec sl3'.src sl5.src (by rw [List.length_map]; exact Nat.lt_of_le_of_lt (List.length_filter_le _ _) hXl) ⟨_, rfl, ?_⟩
      have nin : ∀ k, k ∉ xb :: os → h3 k ≠ none → k ∉ o4 := fun k hk hne hm => (s4.own k (by simp [hm])).elim hk hne
      refine hk h4 (now + 1) l3 _ a4 c4 o4 ⟨t3.step s4 hbx hrx, x4, k3, B.s.filter _, fun j => ?_, Nat.le_trans (List.length_filter_le _ _) (by have := B.len; omega), fun p hp => ?_, by omega, B.bx, B.rx, nin b hbx (by rw [t3.blk]; simp), nin r hrx t3.map.ne⟩ ?_
      · rw [g3, lget_filter B.s.keyed, B.e]
        by_cases hj : j ∈ (X.filter fun p => decide (time ≤ now + 1 - p.2)).map (·.1)
        · rw [if_pos hj]
          obtain ⟨v, e1, e2⟩ := (mem_filter_keys B.s j).1 hj
          simp only [] at e2
          rw [e1]; simp only [Option.filter, e2]; rfl
        · rw [if_neg hj]
          cases hl : lget X j with
          | none => rfl
          | some v =>
            have : decide (time ≤ now + 1 - v) = false := by
              cases hd : decide (time ≤ now + 1 - v) with
              | false => rfl
              | true => exact absurd ((mem_filter_keys B.s j).2 ⟨v, hl, hd⟩) hj
            simp only [Option.filter, this]; rfl
      · have := B.v p (List.mem_filter.1 hp).1
        omega
      · refine S1'.trans ((s3.weak (p := b :: r :: xb :: os) (p' := b :: r :: xb :: os) (by intro k hk; simp at hk ⊢; rcases hk with h | h <;> simp [h]) (by intro k hk; exact .inr (.inl hk))).trans ?_)
        exact (s4.frame [b, r]).weak (by intro k hk; simp at hk ⊢; rcases hk with h | h | h | h <;> simp [h]) (by intro k hk; simp at hk ⊢; rcases hk with h | h | h | h <;> simp [h])
  exact At_spec W.x hXl (fun i v hi => ⟨_, rfl, rest _ (fun _ _ _ => .inr trivial) (.inr ⟨i, v, hi, rfl⟩)⟩) fun hnone => ⟨_, rfl, rest _ (fun _ _ _ => .inr trivial) (.inl ⟨hnone, rfl⟩)⟩
end Go.Den.Lease
