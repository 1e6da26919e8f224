import Derived.Test.YtcdfcpicjdnieaaTallyG
import Derived.Test.YtcdfcpicjdnieaaTally2
/- The law Back. -/
set_option linter.unusedVariables false
set_option maxRecDepth 20000
namespace Go.Den.Tally
open Go Go.Den

/-- How much a script counts for a key. -/
def tot : List TAct → Int → Nat
  | [], _ => 0
  | a :: L, k => (if k = a.k then a.n else 0) + tot L k
theorem tot_app {L L' : List TAct} {k : Int} : tot (L ++ L') k = tot L k + tot L' k := by
  induction L with
  | nil => simp [tot]
  | cons a L ih => simp only [List.cons_append, tot, ih]; omega

theorem keysOf_nil : keysOf [] = [] := List.length_eq_zero_iff.1 (by rw [keysOf_len]; rfl)
theorem sumOf_nil : sumOf [] = 0 := by unfold sumOf; rw [keysOf_nil]; rfl
theorem rows_nil : rows [] = [] := by unfold rows; rw [keysOf_nil]; rfl

theorem Good.none {most n : Nat} {l : List (Int × Nat)} (g : Good most l n) (h : ∀ k, cget l k = 0) : l = [] := by
  cases l with
  | nil => rfl
  | cons x l =>
    obtain ⟨a, c⟩ := x
    have h1 := g.pos (a, c) (by simp)
    have h2 := h a
    rw [cget, if_pos rfl] at h2
    simp at h1; omega

variable {h : Hp} {K : Value → Hp → Prop}

theorem Pick_spec {x : Int} {n : Nat} (hN : n < 4611686018427387904) (hk : ∀ k : Nat, k < n ∨ (n = 0 ∧ k = 0) → K (.int .i64 k) h) : HC P ref01_Pick.n #[.int .i64 x, .int .i64 n] h K := by
  refine ref01_Pick.hc ?_
  unfold ref01_Pick
  by_cases h0 : n = 0
  · subst h0
    exact bcase_of_true (by decide) (hk 0 (.inr ⟨rfl, rfl⟩))
  refine bcase_of_false (decide_eq_false (by omega)) ?_
  unfold ref01_Pick.k0
  have hlt : Int.tmod x n < n := Int.tmod_lt_of_pos x (by omega)
  have hgt : -(n : Int) < Int.tmod x n := Int.lt_tmod_of_pos x (by omega)
  refine ⟨by omega, bcase_intro (fun hc => ?_) fun hc => ?_⟩
  · have hc := of_decide_eq_true hc
    rw [wrap_id (by omega) (by omega)]
    have := hk (Int.tmod x n + n).toNat (.inl (by omega))
    rwa [show (((Int.tmod x n + n).toNat : Nat) : Int) = Int.tmod x n + n by omega] at this
  · have hc := of_decide_eq_false hc
    have := hk (Int.tmod x n).toNat (.inl (by omega))
    rwa [show (((Int.tmod x n).toNat : Nat) : Int) = Int.tmod x n by omega] at this

theorem slAct : SliceTy P T.sl_tenonlaw03_Act T.tenonlaw03_Act 3 := sliceTy_of (by kernel_rfl)
theorem cells3_app {L L' : List TAct} : cells3 (L ++ L') = cells3 L ++ cells3 L' := by simp [cells3]
theorem cells3_len {L : List TAct} : (cells3 L).length = L.length * 3 := by
  unfold cells3
  induction L with
  | nil => rfl
  | cons x L ih => simp only [List.flatMap_cons, List.length_append, ih, List.length_cons]; simp [acells]; omega

theorem rot_get {L : List TAct} {at' i : Nat} (ha : at' < L.length) (hi : i < L.length) : (L.drop at' ++ L.take at')[i]? = L[(at' + i) % L.length]? := by
  by_cases hc : at' + i < L.length
  · rw [List.getElem?_append_left (by rw [List.length_drop]; omega), List.getElem?_drop, Nat.mod_eq_of_lt hc]
  · rw [List.getElem?_append_right (by rw [List.length_drop]; omega), List.length_drop, List.getElem?_take_of_lt (by omega)]
    congr 1
    rw [Nat.mod_eq_sub_mod (by omega), Nat.mod_eq_of_lt (by omega)]
    omega

theorem TallyBack_holds {a0 : Option Addr} {len cap : Nat} {turn : Int} {acts : List TAct} (hs : SrcAt h 3 (.slice a0 len cap) len (cells3 acts)) (hN : acts.length = len) (hok : ∀ a ∈ acts, a.n < 4294967296) (hlen : len < 9223372036854775808) :
    HC P law03_TallyBack.n #[.slice a0 len cap, .int .i64 turn] h (Holds h) := by
  refine law03_TallyBack.hc ?_
  unfold law03_TallyBack
  obtain ⟨most, hmost⟩ : ∃ most : Nat, most = 4294967295 := ⟨_, rfl⟩
  rw [show (4294967295 : Int) = (most : Int) by rw [hmost]; rfl]
  refine New_spec fun h0 b r t0 s0 => ⟨_, rfl, ?_⟩
  have hbr : b ≠ r := by
    rintro rfl
    have := t0.blk
    obtain ⟨es, c, e, _⟩ := t0.map
    rw [e] at this; cases this
  obtain ⟨I0, hI0⟩ : ∃ I0 : List Value → Hp → Prop, I0 = fun vs hh => ∃ (i : Nat) (l : List (Int × Nat)) (D : List TAct) (a2 : Option Addr) (c0 : Nat) (os : List Nat), vs = [.slice a2 D.length c0, .int .i64 (i : Int)] ∧ i ≤ 100 ∧ i ≤ len ∧ D.length ≤ i ∧ (∀ a ∈ D, a.n < 4294967296) ∧
    TAt hh b r most l ∧ Good most l i ∧ (∀ k, cget l k = tot D k) ∧ SlAt hh T.tenonlaw03_Act 3 Any' a2 D.length c0 (cells3 D) os ∧ (∀ k ∈ os, k ≠ b ∧ k ≠ r) ∧ Step [] h (b :: r :: os) hh := ⟨_, rfl⟩
  refine ⟨I0, fun vs _ => match vs with | [_, .int _ i] => len - i.toNat | _ => 0, ?_⟩
  unfold law03_TallyBack.k15
  refine ⟨by rw [hI0]; exact ⟨0, [], [], none, 0, [], rfl, by omega, by omega, by simp, by simp, t0, .nil, fun k => rfl, .none, by simp, s0⟩, ?_⟩
  intro h1 a2 n1 c0 n2 hin
  rw [hI0] at hin
  obtain ⟨i, l, D, a2', c0', os, he, hi100, hilen, hDi, hDok, t1, g1, hcg, sl1, hos, s1⟩ := hin
  cases he
  -- the way back
  have back : law03_TallyBack.k13 turn D.length h1 a2 (some ⟨b, 0, none⟩) (Holds h) := by
    unfold law03_TallyBack.k13
    refine Pick_spec (by omega) fun at' hat => ⟨_, rfl, ?_⟩
    obtain ⟨R, hR⟩ : ∃ R, R = D.drop at' ++ D.take at' := ⟨_, rfl⟩
    have hRl : R.length = D.length := by rw [hR, List.length_append, List.length_drop, List.length_take]; omega
    have hRok : ∀ a ∈ R, a.n < 4294967296 := fun a ha => hDok a (by
      rw [hR] at ha
      rcases List.mem_append.1 ha with h | h
      · exact List.mem_of_mem_drop h
      · exact List.mem_of_mem_take h)
    have hRt : ∀ k, cget l k = tot R k := fun k => by
      rw [hcg, hR, tot_app, Nat.add_comm, ← tot_app, List.take_append_drop]
    obtain ⟨I1, hI1⟩ : ∃ I1 : List Value → Hp → Prop, I1 = fun vs hh => ∃ (bb : Bool) (j : Nat) (l' : List (Int × Nat)), vs = [.bool bb, .int .i64 (j : Int)] ∧ j ≤ D.length ∧ TAt hh b r most l' ∧ Good most l' (i + j) ∧ (∀ k, cget l' k = tot (R.drop j) k) ∧ Step [b, r] h1 [b, r] hh := ⟨_, rfl⟩
    refine ⟨I1, fun vs _ => match vs with | [_, .int _ j] => D.length - j.toNat | _ => 0, ?_⟩
    unfold law03_TallyBack.k12
    refine ⟨by rw [hI1]; exact ⟨false, 0, l, rfl, by omega, t1, g1, by simpa using hRt, Step.refl _ _⟩, ?_⟩
    intro h5 bb n9 hin
    rw [hI1] at hin
    obtain ⟨bb', j, l', he, hj, t5, g5, hc5, S5⟩ := hin
    cases he
    have sl5 : SlAt h5 T.tenonlaw03_Act 3 Any' a2 D.length c0 (cells3 D) os := sl1.keep fun k hk => S5.keep k (sl1.mem k hk) (by have := hos k hk; simp [this.1, this.2])
    have S05 : Step [] h (b :: r :: os) h5 := s1.trans ((S5.frame os).weak (by simp) (by intro k hk; simp at hk ⊢; exact .inl hk))
    refine bcase_intro (fun hc => ?_) fun hc => ?_
    · have hc : j < D.length := by have := of_decide_eq_true hc; omega
      have hat' : at' < D.length := by omega
      unfold law03_TallyBack.k7
      have wj : IntKind.wrap .i64 ((at' : Int) + (j : Int)) = ((at' + j : Nat) : Int) := by rw [wrap_id (by omega) (by omega)]; omega
      have wm : Int.tmod ((at' + j : Nat) : Int) (D.length : Int) = (((at' + j) % D.length : Nat) : Int) := by
        rw [Int.tmod_eq_emod_of_nonneg (by omega)]; simp
      rw [wj, wm]
      obtain ⟨x, hx⟩ : ∃ x, x = (at' + j) % D.length := ⟨_, rfl⟩
      have hxl : x < D.length := by rw [hx]; exact Nat.mod_lt _ (by omega)
      rw [← hx]
      obtain ⟨a, ha⟩ : ∃ a, D[x]? = some a := ⟨_, List.getElem?_eq_getElem hxl⟩
      have hRa : R[j]? = some a := by rw [hR, rot_get hat' hc, ← hx, ha]
      have hdr : R.drop j = a :: R.drop (j + 1) := by
        have hjl : j < R.length := by omega
        rw [List.drop_eq_getElem_cons hjl]
        rw [List.getElem?_eq_getElem hjl] at hRa
        cases hRa; rfl
      have han : a.n < 4294967296 := hRok a (List.mem_of_getElem? hRa)
      obtain ⟨p, rfl, hp⟩ := sl5.src.part hxl
      rw [cells3_part ha] at hp
      have hle : a.n ≤ cget l' a.k := by rw [hc5, hdr, tot, if_pos rfl]; omega
      refine ⟨by omega, by omega, by omega, a.d, a.k, a.n, hp, fun b1 hb1 => ⟨rfl, by simp [cellish], free_new (z := [.bool false, .int .u64 0, .int .u32 0]) rfl, ?_⟩⟩
      have e : (h5.put b1 (.cells #[.bool false, .int .u64 0, .int .u32 0] T.tenonlaw03_Act (0, 0))).setCells ⟨b1, 0, none⟩ #[.bool a.d, .int .u64 a.k, .int .u32 (a.n : Int)] = h5.put b1 (.cells (acells a).toArray T.tenonlaw03_Act (0, 0)) :=
        setCells_new (z := [.bool false, .int .u64 0, .int .u32 0]) rfl
      rw [e]
      obtain ⟨h6, hh6⟩ : ∃ h6, h6 = h5.put b1 (.cells (acells a).toArray T.tenonlaw03_Act (0, 0)) := ⟨_, rfl⟩
      rw [← hh6]
      have B6 : h6 b1 = some (.cells (acells a).toArray T.tenonlaw03_Act (0, 0)) := by rw [hh6]; exact put_self
      have S56 : Step [] h5 [] h6 := by rw [hh6]; exact Step.put (.inr hb1)
      refine ⟨a.k, by rw [Addr.add_mk, cell_of B6]; rfl, a.n, by rw [Addr.add_mk, cell_of B6]; rfl, ?_⟩
      refine Down_spec (t5.keep S56) hbr (by have := g5.le a.k; omega) (fun hlt => by omega) fun _ h7 t7 S7 => ⟨_, _, rfl, ?_⟩
      unfold law03_TallyBack.k6
      refine bcase_of_false rfl ?_
      unfold law03_TallyBack.k5
      have wi : IntKind.wrap .i64 ((j : Int) + 1) = ((j + 1 : Nat) : Int) := by rw [wrap_id (by omega) (by omega)]; omega
      rw [wi]
      have hcg' : ∀ k, cget (cset l' a.k (cget l' a.k - a.n)) k = tot (R.drop (j + 1)) k := by
        intro k
        have e2 : tot (R.drop j) a.k = a.n + tot (R.drop (j + 1)) a.k := by rw [hdr, tot, if_pos rfl]
        have e3 := hc5 a.k
        have e4 := hc5 k
        rw [g5.cget_set]
        by_cases hk : k = a.k
        · rw [if_pos hk, hk]; omega
        · rw [if_neg hk, e4, hdr, tot, if_neg hk]; omega
      refine ⟨by rw [hI1]; exact ⟨bb, j + 1, _, rfl, by omega, t7, g5.set (by have := g5.le a.k; omega), hcg', (S5.trans (S56.frame [b, r])).trans (S7.weak (by simp) (by intro k hk; simp at hk ⊢; rcases hk with rfl | rfl <;> simp))⟩, ?_⟩
      show D.length - ((j + 1 : Nat) : Int).toNat < D.length - (j : Int).toNat
      omega
    · have hc : j = D.length := by have := of_decide_eq_false hc; omega
      subst hc
      have hz : ∀ k, cget l' k = 0 := fun k => by
        rw [hc5, List.drop_eq_nil_of_le (by omega)]; rfl
      have hl' := g5.none hz
      subst hl'
      unfold law03_TallyBack.k11
      refine Sum_spec t5 (by simp) (by simp [cget]) fun h7 S7 => ⟨_, rfl, ?_⟩
      rw [sumOf_nil]
      unfold law03_TallyBack.k10
      refine bcase_of_true (by decide) ?_
      unfold law03_TallyBack.k9
      refine told_spec (m := 9) (t5.keep S7) (by simp) fun h8 a4 c4 o4 sl8 S8 => ⟨_, _, _, rfl, ?_⟩
      have hr0 : (List.take (9 : Int).toNat (rows [])).length = 0 := by
        rw [rows_nil]; rfl
      rw [hr0]
      unfold law03_TallyBack.k8
      refine bcase_of_true rfl ?_
      exact awake_spec fun h9 S9 => ⟨_, rfl, rfl, ((((S05.trans (S7.weak (p' := []) (by simp) (by simp))).trans (S8.weak (p' := []) (by simp) (by simp))).trans S9).weak (by simp) (by simp))⟩
  refine bcase_intro (fun hc => ?_) fun hc => back
  have hc : i < len := by have := of_decide_eq_true hc; omega
  unfold law03_TallyBack.k14
  by_cases hc2 : i < 100
  rotate_left
  · exact bcase_of_false (decide_eq_false (by omega)) back
  refine bcase_of_true (decide_eq_true (by omega)) ?_
  unfold law03_TallyBack.k4
  have hs1 := hs.sub s1.sub0
  obtain ⟨p, rfl, hp⟩ := hs1.part hc
  obtain ⟨a, ha⟩ : ∃ a, acts[i]? = some a := ⟨_, List.getElem?_eq_getElem (by omega)⟩
  have han : a.n < 4294967296 := hok a (List.mem_of_getElem? ha)
  rw [cells3_part ha] at hp
  have wi : IntKind.wrap .i64 ((i : Int) + 1) = ((i + 1 : Nat) : Int) := by rw [wrap_id (by omega) (by omega)]; omega
  simp only [someD_some, Int.toNat_natCast]
  refine ⟨by omega, by omega, a.k, hp.2 1 _ rfl, by omega, by omega, a.n, hp.2 2 _ rfl, ?_⟩
  refine Up_spec t1 hbr (by omega) (g1.le _) (fun hlt => ⟨_, _, rfl, ?_⟩) fun hle h2 t2 S2 => ⟨_, _, rfl, ?_⟩
  · unfold law03_TallyBack.k3
    refine bcase_of_false (by decide) ?_
    unfold law03_TallyBack.k2
    rw [wi]
    refine ⟨by rw [hI0]; exact ⟨i + 1, l, D, a2, c0, os, rfl, by omega, by omega, by omega, hDok, t1, g1.up, hcg, sl1, hos, s1⟩, ?_⟩
    show len - ((i + 1 : Nat) : Int).toNat < len - (i : Int).toNat
    omega
  · unfold law03_TallyBack.k3
    refine bcase_of_true rfl ?_
    unfold law03_TallyBack.k1
    have S02 : Step [] h (b :: r :: os) h2 := s1.trans (S2.weak (by simp) (by intro k hk; simp at hk ⊢; rcases hk with rfl | rfl | hk <;> simp [*]))
    have hs2 := hs.sub S02.sub0
    obtain ⟨p', hp1, hp'⟩ := hs2.part hc
    cases hp1
    rw [cells3_part ha] at hp'
    simp only [someD_some, Int.toNat_natCast]
    have sl2 : SlAt h2 T.tenonlaw03_Act 3 Any' a2 D.length c0 (cells3 D) os := sl1.keep fun k hk => S2.keep k (sl1.mem k hk) (by have := hos k hk; simp [this.2])
    refine ⟨by omega, by omega, a.d, a.k, a.n, hp', fun b0 hb0 => ?_⟩
    have nb : b0 ∉ os := fun hm => sl2.mem b0 hm hb0
    have sl2' : SlAt (h2.put b0 (.cells #[.bool a.d, .int .u64 a.k, .int .u32 (a.n : Int)] T.tenonlaw03_Act (0, 0))) T.tenonlaw03_Act 3 Any' a2 D.length c0 (cells3 D) os := sl2.keep fun k hk => by
      have q : k ≠ b0 := fun e => nb (e ▸ hk)
      rw [put_ne q]
    refine append_wp (n := 1) (cs := acells a) slAct slAct.1 sl2' (fun _ _ _ _ _ _ => trivial) (.some ⟨by simp [acells], fun j v hv => ?_⟩) (by simp [acells, cellish]) (by omega) fun a3 c1 o3 h3 sl3 _ S3 => ⟨_, _, _, rfl, ?_⟩
    · rw [Addr.add_mk, cell_of put_self]; simpa [acells] using hv
    unfold law03_TallyBack.k0
    rw [wi]
    have Sp : Step [] h2 [] (h2.put b0 (.cells #[.bool a.d, .int .u64 a.k, .int .u32 (a.n : Int)] T.tenonlaw03_Act (0, 0))) := Step.put (.inr hb0)
    have t3 := (t2.keep Sp)
    have nbk : ∀ k, (k = b ∨ k = r) → k ∉ os := fun k hk hm => by have := hos k hm; rcases hk with rfl | rfl <;> simp at this
    have t3b := S3.block t3.blk (nbk b (.inl rfl))
    have t3r : MapAt h3 r .u64 (cv (cset l a.k (cget l a.k + a.n))) := t3.map.keep (S3.keep r t3.map.ne (nbk r (.inr rfl)))
    have ell : (D ++ [a]).length = D.length + 1 := by simp
    refine ⟨?_, ?_⟩
    · rw [hI0]
      refine ⟨i + 1, _, D ++ [a], a3, c1, o3, by rw [ell], by omega, by omega, by rw [ell]; omega, fun x hx => ?_, ⟨t3b, t3r⟩, g1.set hle, fun k => ?_, by rw [ell, cells3_app]; simpa [cells3] using sl3, fun k hk => ?_, ?_⟩
      · rcases List.mem_append.1 hx with hx | hx
        · exact hDok x hx
        · simp at hx; exact hx ▸ han
      · have e1 := hcg k
        have e2 := hcg a.k
        rw [g1.cget_set, tot_app]
        simp only [tot]
        by_cases hk : k = a.k
        · rw [if_pos hk, if_pos hk, hk]; omega
        · rw [if_neg hk, if_neg hk]; omega
      · rcases S3.own k hk with hm | hm
        · exact hos k hm
        · refine ⟨fun e => ?_, fun e => ?_⟩
          · rw [e, t3.blk] at hm; cases hm
          · exact t3.map.ne (e ▸ hm)
      · exact (S02.trans ((Sp.frame (b :: r :: os)).weak (p := b :: r :: os) (p' := b :: r :: os) (by simp) (by intro k hk; exact .inr (.inl hk)))).trans ((S3.frame [b, r]).weak (p := b :: r :: os) (p' := b :: r :: o3) (by intro k hk; simp at hk ⊢; rcases hk with h | h | h <;> simp [h]) (by intro k hk; simp at hk ⊢; rcases hk with h | h | h <;> simp [h]))
    · show len - ((i + 1 : Nat) : Int).toNat < len - (i : Int).toNat
      omega

theorem TallyBack_said {h : Hp} {turn : Int} {sa : Option Addr} {len cap : Nat} (g : TActGiven h (.slice sa len cap) len) (ht : (Lit.int .i64 turn).wf = true) : HC P law03_TallyBack.n #[.slice sa len cap, .int .i64 turn] h (Holds h) := by
  obtain ⟨acts, g1, g2, g3, g4⟩ := g
  exact TallyBack_holds g3 g1 g4 g2
end Go.Den.Tally
