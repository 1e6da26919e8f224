import Derived.Test.YtcdfcpicjdnieaaTallyJ
/- The law All. -/
set_option linter.unusedVariables false
set_option maxRecDepth 20000
namespace Go.Den.Tally
open Go Go.Den

theorem pos_keys {l : List (Int × Nat)} (hk : Keyed l) (hp : Pos l) (k : Int) : k ∈ l.map (·.1) ↔ 0 < cget l k := by
  constructor
  · intro h
    obtain ⟨p, hp', rfl⟩ := List.mem_map.1 h
    obtain ⟨i, hi⟩ := List.mem_iff_getElem?.1 hp'
    rw [cget_at hk (i := i) (k := p.1) (v := p.2) hi]
    exact hp p hp'
  · intro h
    refine Classical.byContradiction fun hn => ?_
    rw [cget_none hn] at h; omega

theorem filter_keys {X : List (Int × Nat)} (hk : Keyed X) (k : Int) : k ∈ (X.filter fun p => decide (0 < p.2)).map (·.1) ↔ 0 < cget X k := by
  constructor
  · intro h
    obtain ⟨p, hp', rfl⟩ := List.mem_map.1 h
    obtain ⟨h1, h2⟩ := List.mem_filter.1 hp'
    obtain ⟨i, hi⟩ := List.mem_iff_getElem?.1 h1
    rw [cget_at hk (i := i) (k := p.1) (v := p.2) hi]
    simpa using h2
  · intro h
    have hm : k ∈ X.map (·.1) := Classical.byContradiction fun hn => by rw [cget_none hn] at h; omega
    obtain ⟨p, hp, rfl⟩ := List.mem_map.1 hm
    obtain ⟨i, hi⟩ := List.mem_iff_getElem?.1 hp
    rw [cget_at hk (i := i) (k := p.1) (v := p.2) hi] at h
    exact List.mem_map.2 ⟨p, List.mem_filter.2 ⟨hp, by simpa using h⟩, rfl⟩

/-- What is told is what the document has. -/
theorem rows_eq {l X : List (Int × Nat)} (hk : Keyed l) (hp : Pos l) (hS : SX X) (he : ∀ k, cget l k = cget X k) : rows l = X.filter fun p => decide (0 < p.2) := by
  obtain ⟨Y, hY⟩ : ∃ Y, Y = X.filter fun p => decide (0 < p.2) := ⟨_, rfl⟩
  have hYS : SX Y := by
    unfold SX; rw [hY]
    exact hS.sublist (List.Sublist.map _ List.filter_sublist)
  have hmem : ∀ k, k ∈ l.map (·.1) ↔ k ∈ Y.map (·.1) := fun k => by
    rw [pos_keys hk hp, hY, filter_keys hS.keyed, he]
  have hperm : (Y.map (·.1)).Perm (l.map (·.1)) := (List.perm_ext_iff_of_nodup hYS.keyed hk).2 fun k => (hmem k).symm
  have hkeys : Y.map (·.1) = keysOf l := keysOf_eq hperm (hYS.imp fun h => Int.le_of_lt h)
  unfold rows
  rw [← hkeys, ← hY, List.map_map]
  refine (List.map_congr_left fun p hp' => ?_).trans (List.map_id Y)
  obtain ⟨i, hi⟩ := List.mem_iff_getElem?.1 hp'
  have h1 : cget Y p.1 = p.2 := cget_at hYS.keyed hi
  have hX : p ∈ X := by rw [hY] at hp'; exact (List.mem_filter.1 hp').1
  obtain ⟨j, hj⟩ := List.mem_iff_getElem?.1 hX
  have h2 : cget X p.1 = p.2 := cget_at hS.keyed hj
  show (p.1, cget l p.1) = p
  rw [he, h2]

structure Both (h : Hp) (b r xb most : Nat) (l X : List (Int × Nat)) (a : Option Addr) (c : Nat) (os : List Nat) (n : Nat) : Prop where
  t : TAt h b r most l
  x : RAt h xb most X a c os
  g : Good most l n
  s : SX X
  e : ∀ k, cget l k = cget X k
  len : X.length ≤ n
  br : b ≠ r
  bx : b ≠ xb
  rx : r ≠ xb
  bo : b ∉ os
  ro : r ∉ os

theorem Both.keep {h h' : Hp} {b r xb most n : Nat} {l X : List (Int × Nat)} {a : Option Addr} {c : Nat} {os o : List Nat} (B : Both h b r xb most l X a c os n) (s : Step [] h o h') : Both h' b r xb most l X a c os n :=
  { B with t := B.t.keep s, x := B.x.keep s }

variable {h : Hp} {b r xb most n : Nat} {l X : List (Int × Nat)} {a : Option Addr} {c : Nat} {os : List Nat} {K : Value → Hp → Prop}

/-- Behind a step of the tally's map. -/
theorem Both.mapStep (B : Both h b r xb most l X a c os n) {h' : Hp} (s : Step [r] h [r] h') : RAt h' xb most X a c os :=
  ⟨s.block B.x.blk (by simpa using Ne.symm B.rx), B.x.sl.keep fun k hk => s.keep k (B.x.sl.mem k hk) (by simp; exact fun e => B.ro (e ▸ hk)), B.x.ne⟩

theorem TAt.refStep {h h' : Hp} {os' : List Nat} (t : TAt h b r most l) (hb : b ∉ xb :: os) (hr : r ∉ xb :: os) (s : Step (xb :: os) h (xb :: os') h') : TAt h' b r most l :=
  ⟨s.block t.blk hb, t.map.keep (s.keep r t.map.ne hr)⟩

theorem do_spec (B : Both h b r xb most l X a c os n) (hn : n < 1000) (hm : most < 4294967296) {ac : TAct} (ha : ac.n < 4294967296)
    (hk : ∀ h' l' X' a' c' os', Both h' b r xb most l' X' a' c' os' (n + 1) → Step (b :: r :: xb :: os) h (b :: r :: xb :: os') h' → K (.bool true) h') :
    HC P law03_do.n #[.pointer (some ⟨b, 0, none⟩), .pointer (some ⟨xb, 0, none⟩), .agg #[.bool ac.d, .int .u64 ac.k, .int .u32 (ac.n : Int)]] h K := by
  refine law03_do.hc ?_
  unfold law03_do
  intro b1 hb1
  obtain ⟨h2, hh2⟩ : ∃ h2, h2 = h.put b1 (.cells #[.bool ac.d, .int .u64 ac.k, .int .u32 (ac.n : Int)] T.tenonlaw03_Act (0, 0)) := ⟨_, rfl⟩
  have B2 : h2 b1 = some (.cells #[.bool ac.d, .int .u64 ac.k, .int .u32 (ac.n : Int)] T.tenonlaw03_Act (0, 0)) := by rw [hh2]; exact put_self
  have S2 : Step [] h [] h2 := by rw [hh2]; exact Step.put (.inr hb1)
  have W := B.keep S2
  have n1r : b1 ≠ r := fun e => B.t.map.ne (e ▸ hb1)
  have hcl : cget l ac.k ≤ most := B.g.le _
  have hXc : cget X ac.k = cget l ac.k := (B.e _).symm
  have hXl : X.length < 1000000 := by have := B.len; omega
  have hbx : b ∉ xb :: os := by simp [B.bx, B.bo]
  have hrx : r ∉ xb :: os := by simp [B.rx, B.ro]
  rw [← hh2]
  -- what is left behind both calls
  have fin : ∀ (h3 h4 : Hp) (l' X' : List (Int × Nat)) (a' : Option Addr) (c' : Nat) (os' : List Nat), TAt h3 b r most l' → Step [r] h2 [r] h3 → RAt h4 xb most X' a' c' os' → Step (xb :: os) h3 (xb :: os') h4 → Good most l' (n + 1) → SX X' → (∀ k, cget l' k = cget X' k) → X'.length ≤ X.length + 1 →
      Both h4 b r xb most l' X' a' c' os' (n + 1) ∧ Step (b :: r :: xb :: os) h (b :: r :: xb :: os') h4 := by
    intro h3 h4 l' X' a' c' os' t3 s3 x4 s4 g4 sx e4 le4
    have nin : ∀ k, k ∉ xb :: os → h3 k ≠ none → k ∉ os' := fun k hk hne hm => (s4.own k (by simp [hm])).elim hk hne
    refine ⟨⟨t3.refStep hbx hrx s4, x4, g4, sx, e4, by have := B.len; omega, B.br, B.bx, B.rx, nin b hbx (by rw [t3.blk]; simp), nin r hrx t3.map.ne⟩, ?_⟩
    refine (S2.weak (p := b :: r :: xb :: os) (p' := b :: r :: xb :: os) (by simp) (by intro k hk; exact .inr (.inl hk))).trans ?_
    refine (s3.weak (p := b :: r :: xb :: os) (p' := b :: r :: xb :: os) (by simp) (by intro k hk; exact .inr (.inl hk))).trans ?_
    exact (s4.frame [b, r]).weak (by intro k hk; simp at hk ⊢; rcases hk with h | h | h | h <;> simp [h]) (by intro k hk; simp at hk ⊢; rcases hk with h | h | h | h <;> simp [h])
  have kB : ∀ h3, Step [r] h2 [r] h3 → h3 b1 = some (.cells #[.bool ac.d, .int .u64 ac.k, .int .u32 (ac.n : Int)] T.tenonlaw03_Act (0, 0)) := fun h3 s3 => s3.block B2 (by simpa using n1r)
  refine ⟨ac.d, by rw [Addr.add_mk, cell_of B2]; rfl, bcase_intro (fun hd => ?_) fun hd => ?_⟩
  · unfold law03_do.k3
    rw [← hh2]
    refine ⟨ac.k, by rw [Addr.add_mk, cell_of B2]; rfl, ac.n, by rw [Addr.add_mk, cell_of B2]; rfl, ?_⟩
    refine Down_spec W.t W.br (by omega) (fun hlt => ⟨_, _, rfl, ac.k, by rw [Addr.add_mk, cell_of B2]; rfl, ac.n, by rw [Addr.add_mk, cell_of B2]; rfl, ?_⟩) fun hle h3 t3 s3 => ⟨_, _, rfl, ac.k, by rw [Addr.add_mk, cell_of (kB h3 s3)]; rfl, ac.n, by rw [Addr.add_mk, cell_of (kB h3 s3)]; rfl, ?_⟩
    · unfold law03_do.k2
      refine rDown_spec W.x W.s hXl ha (by omega) (fun _ h4 X4 a4 c4 o4 x4 sx e4 l4 s4 => ⟨_, _, rfl, ?_⟩) fun hle => by omega
      obtain ⟨F1, F2⟩ := fin h2 h4 l X4 a4 c4 o4 W.t (Step.refl _ _) x4 s4 B.g.up sx (fun k => by rw [e4, B.e]) l4
      unfold law03_do.k1
      refine bcase_of_true (by rw [hXc]; simp) ?_
      unfold law03_do.k0
      exact bcase_of_true rfl (bcase_of_false rfl (hk _ _ _ _ _ _ F1 F2))
    · unfold law03_do.k2
      refine rDown_spec (W.mapStep s3) W.s hXl ha (by omega) (fun hlt => by omega) fun _ h4 X4 a4 c4 o4 x4 sx e4 l4 s4 => ⟨_, _, rfl, ?_⟩
      obtain ⟨F1, F2⟩ := fin h3 h4 _ X4 a4 c4 o4 t3 s3 x4 s4 (B.g.set (by omega)) sx (fun k => by rw [e4, B.g.cget_set, hXc, B.e k]) l4
      unfold law03_do.k1
      refine bcase_of_true (by rw [hXc]; simp) ?_
      unfold law03_do.k0
      exact bcase_of_true rfl (bcase_of_true rfl (hk _ _ _ _ _ _ F1 F2))
  · unfold law03_do.k5
    rw [← hh2]
    refine ⟨ac.k, by rw [Addr.add_mk, cell_of B2]; rfl, ac.n, by rw [Addr.add_mk, cell_of B2]; rfl, ?_⟩
    refine Up_spec W.t W.br hm hcl (fun hlt => ⟨_, _, rfl, ac.k, by rw [Addr.add_mk, cell_of B2]; rfl, ac.n, by rw [Addr.add_mk, cell_of B2]; rfl, ?_⟩) fun hle h3 t3 s3 => ⟨_, _, rfl, ac.k, by rw [Addr.add_mk, cell_of (kB h3 s3)]; rfl, ac.n, by rw [Addr.add_mk, cell_of (kB h3 s3)]; rfl, ?_⟩
    · unfold law03_do.k4
      refine rUp_spec W.x W.s hXl hm ha (by omega) (fun _ h4 X4 a4 c4 o4 x4 sx e4 l4 s4 => ⟨_, _, rfl, ?_⟩) fun hle => by omega
      obtain ⟨F1, F2⟩ := fin h2 h4 l X4 a4 c4 o4 W.t (Step.refl _ _) x4 s4 B.g.up sx (fun k => by rw [e4, B.e]) l4
      unfold law03_do.k1
      refine bcase_of_true (by rw [hXc]; simp) ?_
      unfold law03_do.k0
      exact bcase_of_true rfl (bcase_of_false rfl (hk _ _ _ _ _ _ F1 F2))
    · unfold law03_do.k4
      refine rUp_spec (W.mapStep s3) W.s hXl hm ha (by omega) (fun hlt => by omega) fun _ h4 X4 a4 c4 o4 x4 sx e4 l4 s4 => ⟨_, _, rfl, ?_⟩
      obtain ⟨F1, F2⟩ := fin h3 h4 _ X4 a4 c4 o4 t3 s3 x4 s4 (B.g.set (by omega)) sx (fun k => by rw [e4, B.g.cget_set, hXc, B.e k]) l4
      unfold law03_do.k1
      refine bcase_of_true (by rw [hXc]; simp) ?_
      unfold law03_do.k0
      exact bcase_of_true rfl (bcase_of_true rfl (hk _ _ _ _ _ _ F1 F2))

theorem TallyAll_holds {a0 : Option Addr} {len cap : Nat} {stop : Int} {acts : List TAct} (hs : SrcAt h 3 (.slice a0 len cap) len (cells3 acts)) (hN : acts.length = len) (hok : ∀ a ∈ acts, a.n < 4294967296) (hm : most < 4294967296) (hlen : len < 9223372036854775808) :
    HC P law03_TallyAll.n #[.int .u32 (most : Int), .slice a0 len cap, .int .i64 stop] h (Holds h) := by
  refine law03_TallyAll.hc ?_
  unfold law03_TallyAll
  refine New_spec fun h0 b r t0 s0 => ⟨_, rfl, ?_⟩
  have hbr : b ≠ r := by
    rintro rfl
    have := t0.blk
    obtain ⟨es, c, e, _⟩ := t0.map
    rw [e] at this; cases this
  unfold law03_TallyAll.k11
  intro xb hxb
  obtain ⟨I0, hI0⟩ : ∃ I0 : List Value → Hp → Prop, I0 = fun vs hh => ∃ (i : Nat) (l X : List (Int × Nat)) (a : Option Addr) (c : Nat) (os : List Nat), vs = [.int .i64 (i : Int)] ∧ i ≤ 200 ∧ i ≤ len ∧ Both hh b r xb most l X a c os i ∧ Step [] h (b :: r :: xb :: os) hh := ⟨_, rfl⟩
  have nbx : b ≠ xb := fun e => by rw [← e, t0.blk] at hxb; cases hxb
  have nrx : r ≠ xb := fun e => t0.map.ne (e ▸ hxb)
  have sp : Step [] h0 [] (h0.put xb (.cells #[.int .u32 (most : Int), .slice none 0 0] T.tenonref03_Tally (0, 0))) := Step.put (.inr hxb)
  refine ⟨I0, fun vs _ => match vs with | [.int _ i] => len - i.toNat | _ => 0, by
    rw [hI0]
    refine ⟨0, [], [], none, 0, [], rfl, by omega, by omega, ⟨t0.keep sp, ⟨put_self, .none, by simp⟩, .nil, by simp [SX], fun k => rfl, by simp, hbr, nbx, nrx, by simp, by simp⟩, ?_⟩
    exact (s0.trans (Step.new hxb)).weak (by simp) (by intro k hk; simp at hk ⊢; rcases hk with h | h | h <;> simp [h]), ?_⟩
  intro h1 n2 hin
  rw [hI0] at hin
  obtain ⟨i, l, X, a, c, os, he, hi200, hilen, B, S1⟩ := hin
  cases he
  have back : law03_TallyAll.k9 xb h1 stop (some ⟨b, 0, none⟩) (Holds h) := by
    unfold law03_TallyAll.k9
    have hXl : X.length ≤ 200 := by have := B.len; omega
    obtain ⟨Y, hY⟩ : ∃ Y, Y = rows l := ⟨_, rfl⟩
    have eY := rows_eq B.g.keyed B.g.pos B.s B.e
    have hYl : Y.length ≤ 200 := by rw [hY, eY]; exact Nat.le_trans (List.length_filter_le _ _) hXl
    have hll : l.length < 2147483648 := by have := B.g.len; omega
    refine rAll_spec B.x (by omega) fun h2 a2 c2 o2 sl2 S2 => ⟨_, _, _, rfl, ?_⟩
    rw [← eY, ← hY] at sl2 ⊢
    unfold law03_TallyAll.k8
    have w1 : IntKind.wrap .i64 ((Y.length : Int) + 1) = ((Y.length + 1 : Nat) : Int) := by rw [wrap_id (by omega) (by omega)]; omega
    rw [w1]
    refine Pick_spec (by omega) fun k hkk => ⟨_, rfl, ?_⟩
    have hkY : k ≤ Y.length := by omega
    unfold law03_TallyAll.k7
    have B2 := B.keep S2
    refine told_spec (m := 1000) B2.t hll fun h3 a3 c3 o3 sl3 S3 => ⟨_, _, _, rfl, ?_⟩
    rw [← hY, show (1000 : Int).toNat = 1000 from rfl, List.take_of_length_le (by omega)] at sl3 ⊢
    have sl2' : SlAt h3 T.tenonref03_Count 2 Any' a2 Y.length c2 (cells2 Y) o2 := sl2.keep fun k hk => S3.keep k (sl2.mem k hk) (by simp)
    unfold law03_TallyAll.k6
    refine same_spec sl3.src sl2'.src (by omega) ⟨_, rfl, ?_⟩
    unfold law03_TallyAll.k5
    refine bcase_of_true rfl ?_
    unfold law03_TallyAll.k4
    have B3 := B2.keep S3
    refine told_spec (m := (k : Int)) B3.t hll fun h4 a4 c4 o4 sl4 S4 => ⟨_, _, _, rfl, ?_⟩
    rw [← hY, Int.toNat_natCast] at sl4 ⊢
    have htk : (Y.take k).length = k := by rw [List.length_take]; omega
    have sl2'' : SlAt h4 T.tenonref03_Count 2 Any' a2 Y.length c2 (cells2 Y) o2 := sl2'.keep fun k hk => S4.keep k (sl2'.mem k hk) (by simp)
    have hcap := sl2.le_cap
    unfold law03_TallyAll.k3
    simp only [Int.toNat_natCast]
    refine ⟨by omega, by omega, ?_⟩
    have s5 := sl2''.src.cut (lo := 0) (hi := k) (c' := c2 - 0) (by omega) hkY hcap
    rw [cells2_part, List.drop_zero] at s5
    simp only [Nat.sub_zero] at s5 ⊢
    have s4 := sl4.src
    rw [← htk] at s5
    rw [show Value.slice (offA a2 c2 0 2) k c2 = Value.slice (offA a2 c2 0 2) (Y.take k).length c2 by rw [htk]]
    rw [htk] at s5
    refine same_spec s4 (by rw [htk]; exact s5) (by rw [htk]; omega) ⟨_, rfl, ?_⟩
    unfold law03_TallyAll.k2
    refine bcase_of_true rfl ?_
    exact awake_spec fun h6 S6 => ⟨_, rfl, rfl, (((S1.trans ((S2.weak (p := b :: r :: xb :: os) (p' := []) (by simp) (by simp)))).trans ((S3.weak (p' := []) (by simp) (by simp)).trans ((S4.weak (p' := []) (by simp) (by simp)).trans S6))))⟩
  refine bcase_intro (fun hc => ?_) fun hc => back
  have hc : i < len := by have := of_decide_eq_true hc; omega
  unfold law03_TallyAll.k10
  by_cases hc2 : i < 200
  rotate_left
  · exact bcase_of_false (decide_eq_false (by omega)) back
  refine bcase_of_true (decide_eq_true (by omega)) ?_
  unfold law03_TallyAll.k1
  have hs1 := hs.sub S1.sub0
  obtain ⟨p, rfl, hp⟩ := hs1.part hc
  obtain ⟨ac, ha⟩ : ∃ a, acts[i]? = some a := ⟨_, List.getElem?_eq_getElem (by omega)⟩
  have han : ac.n < 4294967296 := hok ac (List.mem_of_getElem? ha)
  rw [cells3_part ha] at hp
  simp only [someD_some, Int.toNat_natCast]
  refine ⟨by omega, by omega, ac.d, ac.k, ac.n, hp, ?_⟩
  refine do_spec B (by omega) hm han fun h2 l2 X2 a2 c2 o2 B2 S2 => ⟨_, rfl, ?_⟩
  unfold law03_TallyAll.k0
  have wi : IntKind.wrap .i64 ((i : Int) + 1) = ((i + 1 : Nat) : Int) := by rw [wrap_id (by omega) (by omega)]; omega
  rw [wi]
  refine ⟨by rw [hI0]; exact ⟨i + 1, l2, X2, a2, c2, o2, rfl, by omega, by omega, B2, S1.trans S2⟩, ?_⟩
  show len - ((i + 1 : Nat) : Int).toNat < len - (i : Int).toNat
  omega

theorem TallyAll_said {h : Hp} {m stop : Int} {sa : Option Addr} {len cap : Nat} (hm : (Lit.int .u32 m).wf = true) (g : TActGiven h (.slice sa len cap) len) (ht : (Lit.int .i64 stop).wf = true) : HC P law03_TallyAll.n #[.int .u32 m, .slice sa len cap, .int .i64 stop] h (Holds h) := by
  obtain ⟨acts, g1, g2, g3, g4⟩ := g
  have hb := bounds_u32 hm
  obtain ⟨mm, rfl⟩ : ∃ mm : Nat, m = mm := ⟨m.toNat, by omega⟩
  exact TallyAll_holds g3 g1 g4 (by omega) g2
end Go.Den.Tally
