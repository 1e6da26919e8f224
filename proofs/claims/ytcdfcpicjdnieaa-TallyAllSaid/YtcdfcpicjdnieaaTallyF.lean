import Derived.Test.YtcdfcpicjdnieaaTallyP
import Derived.Test.YtcdfcpicjdnieaaDenO
/- The law Bounds. -/
set_option linter.unusedVariables false
set_option maxRecDepth 20000
namespace Go.Den.Tally
open Go Go.Den

/-- An act of the script. -/
structure TAct where
  d : Bool
  k : Int
  n : Nat
def acells (a : TAct) : List Value := [.bool a.d, .int .u64 a.k, .int .u32 (a.n : Int)]
def cells3 (L : List TAct) : List Value := L.flatMap acells
theorem cells3_part {L : List TAct} {i : Nat} {a : TAct} (h : L[i]? = some a) : ((cells3 L).drop (i * 3)).take 3 = acells a := by
  unfold cells3
  induction L generalizing i with
  | nil => cases h
  | cons x L ih =>
    cases i with
    | zero => cases h; rfl
    | succ i =>
      rw [List.flatMap_cons, show (i + 1) * 3 = (acells x).length + i * 3 by simp [acells]; omega, List.drop_append, List.drop_eq_nil_of_le (by omega), List.nil_append, Nat.add_sub_cancel_left]
      exact ih (by simpa using h)

structure Good (most : Nat) (l : List (Int × Nat)) (n : Nat) : Prop where
  keyed : Keyed l
  pos : Pos l
  le : ∀ k, cget l k ≤ most
  len : l.length ≤ n

theorem Good.nil {most : Nat} : Good most [] 0 := ⟨by simp [Keyed], by simp [Pos], fun k => by simp [cget], by simp⟩
theorem Good.up {most n : Nat} {l : List (Int × Nat)} (g : Good most l n) : Good most l (n + 1) := ⟨g.keyed, g.pos, g.le, by have := g.len; omega⟩
theorem Good.set {most n : Nat} {l : List (Int × Nat)} {k : Int} {c : Nat} (g : Good most l n) (hc : c ≤ most) : Good most (cset l k c) (n + 1) := by
  rw [cset_eq]
  refine ⟨cput_keyed g.keyed, cput_pos g.pos, fun j => ?_, ?_⟩
  · rw [cget_cput g.keyed]; split
    · exact hc
    · exact g.le j
  · have := g.len; have := cput_len (l := l) (k := k) (c := c); omega
theorem Good.cget_set {most n : Nat} {l : List (Int × Nat)} {k j : Int} {c : Nat} (g : Good most l n) : cget (cset l k c) j = if j = k then c else cget l j := by
  rw [cset_eq, cget_cput g.keyed]

variable {h : Hp} {K : Value → Hp → Prop}

theorem u32_wrap {n : Int} {m : Nat} (e : n = m) (hm : m < 4294967296) : IntKind.wrap .u32 n = (m : Int) := by rw [e]; exact wrap_u32 (by omega) (by omega)

theorem TallyBounds_holds {most : Nat} {a0 : Option Addr} {len cap : Nat} {acts : List TAct} (hs : SrcAt h 3 (.slice a0 len cap) len (cells3 acts)) (hN : acts.length = len) (hok : ∀ a ∈ acts, a.n < 4294967296) (hm : most < 4294967296) (hlen : len < 9223372036854775808) :
    HC P law03_TallyBounds.n #[.int .u32 (most : Int), .slice a0 len cap] h (Holds h) := by
  refine law03_TallyBounds.hc ?_
  unfold law03_TallyBounds
  refine New_spec fun h0 b r t0 s0 => ⟨_, rfl, ?_⟩
  have hbr : b ≠ r := by
    rintro rfl
    have := t0.blk
    obtain ⟨es, c, e, _⟩ := t0.map
    rw [e] at this; cases this
  obtain ⟨I0, hI0⟩ : ∃ I0 : List Value → Hp → Prop, I0 = fun vs hh => ∃ (bb : Bool) (i : Nat) (l : List (Int × Nat)), vs = [.bool bb, .int .i64 (i : Int)] ∧ i ≤ 200 ∧ i ≤ len ∧ TAt hh b r most l ∧ Good most l i ∧ Step [] h [b, r] hh := ⟨_, rfl⟩
  refine ⟨I0, fun vs _ => match vs with | [_, .int _ i] => len - i.toNat | _ => 0, ?_⟩
  unfold law03_TallyBounds.k19
  refine ⟨by rw [hI0]; exact ⟨false, 0, [], rfl, by omega, by omega, t0, .nil, s0⟩, ?_⟩
  intro h1 bb n1 hin
  rw [hI0] at hin
  obtain ⟨bb', i, l, he, hi200, hilen, t1, g1, s1⟩ := hin
  cases he
  have fin : ∀ {K' : Value → Hp → Prop}, (∀ v hh, K' v hh → True) → HC P law03_awake.n #[] h1 fun v9 h9 => ∃ b6 : Bool, v9 = .bool b6 ∧ Holds h (.bool b6) h9 := fun _ =>
    awake_spec fun h2 s2 => ⟨_, rfl, rfl, (s1.trans (s2.weak (p' := []) (by simp) (by simp))).weak (by simp) (by simp)⟩
  refine bcase_intro (fun hc => ?_) fun hc => fin (K' := fun _ _ => True) (by simp)
  have hc : i < len := by have := of_decide_eq_true hc; omega
  unfold law03_TallyBounds.k18
  by_cases hc2 : i < 200
  rotate_left
  · exact bcase_of_false (decide_eq_false (by omega)) (fin (K' := fun _ _ => True) (by simp))
  refine bcase_of_true (decide_eq_true (by omega)) ?_
  unfold law03_TallyBounds.k17
  have hs1 := hs.sub s1.sub0
  obtain ⟨p, rfl, hp⟩ := hs1.part hc
  obtain ⟨a, ha⟩ : ∃ a, acts[i]? = some a := ⟨_, List.getElem?_eq_getElem (by omega)⟩
  have han : a.n < 4294967296 := hok a (List.mem_of_getElem? ha)
  rw [cells3_part ha] at hp
  refine ⟨by omega, by omega, a.d, a.k, a.n, hp, fun b1 hb1 => ⟨rfl, by simp [acells, cellish], free_new (z := [.bool false, .int .u64 0, .int .u32 0]) rfl, ?_⟩⟩
  have e : (h1.put b1 (.cells #[.bool false, .int .u64 0, .int .u32 0] T.tenonlaw03_Act (0, 0))).setCells ⟨b1, 0, none⟩ #[.bool a.d, .int .u64 a.k, .int .u32 (a.n : Int)] = h1.put b1 (.cells (acells a).toArray T.tenonlaw03_Act (0, 0)) :=
    setCells_new (z := [.bool false, .int .u64 0, .int .u32 0]) rfl
  rw [e]
  obtain ⟨h2, hh2⟩ : ∃ h2, h2 = h1.put b1 (.cells (acells a).toArray T.tenonlaw03_Act (0, 0)) := ⟨_, rfl⟩
  rw [← hh2]
  have B2 : h2 b1 = some (.cells (acells a).toArray T.tenonlaw03_Act (0, 0)) := by rw [hh2]; exact put_self
  have S2 : Step [b, r] h1 [b, r] h2 := by rw [hh2]; exact Step.put (.inr hb1)
  have S02 := s1.trans S2
  have S12 : Step [] h1 [] h2 := by rw [hh2]; exact Step.put (.inr hb1)
  have t2 : TAt h2 b r most l := t1.keep S12
  have n1b : b1 ≠ b := fun e => by rw [e, t1.blk] at hb1; cases hb1
  have n1r : b1 ≠ r := fun e => t1.map.ne (e ▸ hb1)
  refine ⟨a.k, by rw [Addr.add_mk, cell_of B2]; rfl, Of_spec t2 ⟨_, rfl, ?_⟩⟩
  unfold law03_TallyBounds.k16
  have hlen1 : l.length < 2147483648 := by have := g1.len; omega
  have hcl : ∀ k, cget l k < 4294967296 := fun k => by have := g1.le k; omega
  refine Sum_spec t2 hlen1 hcl fun h3 S3 => ⟨_, rfl, ?_⟩
  have B3 : h3 b1 = some (.cells (acells a).toArray T.tenonlaw03_Act (0, 0)) := S3.keepB0 B2
  have t3 := t2.keep S3
  have S03 : Step [] h [b, r] h3 := (S02.trans (S3.frame [b, r]))
  refine ⟨a.d, by rw [Addr.add_mk, cell_of B3]; rfl, ?_⟩
  unfold law03_TallyBounds.k15
  -- the end of a round
  have nxt : ∀ (h6 : Hp) (l' : List (Int × Nat)), TAt h6 b r most l' → Good most l' (i + 1) → Step [] h [b, r] h6 → law03_TallyBounds.k0 I0 bb (i : Int) h6 (fun vs _ => match vs with | [_, .int _ i] => len - i.toNat | _ => 0) h1 := by
    intro h6 l' t6 g6 s6
    unfold law03_TallyBounds.k0
    have wi : IntKind.wrap .i64 ((i : Int) + 1) = ((i + 1 : Nat) : Int) := by rw [wrap_id (by omega) (by omega)]; omega
    rw [wi]
    refine ⟨by rw [hI0]; exact ⟨bb, i + 1, l', rfl, by omega, by omega, t6, g6, s6⟩, ?_⟩
    show len - ((i + 1 : Nat) : Int).toNat < len - (i : Int).toNat
    omega
  -- behind Up or Down: refused
  have refused : law03_TallyBounds.k12 (some ⟨b, 0, none⟩) a.k h3 (most : Int) (Holds h) (cget l a.k : Int) 4 (cget l a.k : Int) (sumOf l : Int) b1 I0 bb (i : Int) (fun vs _ => match vs with | [_, .int _ i] => len - i.toNat | _ => 0) h1 := by
    unfold law03_TallyBounds.k12
    refine Of_spec t3 ⟨_, rfl, ?_⟩
    unfold law03_TallyBounds.k11
    refine bcase_of_false (decide_eq_false (by have := g1.le a.k; omega)) ?_
    unfold law03_TallyBounds.k10
    refine bcase_of_false (by simp) ?_
    unfold law03_TallyBounds.k9
    refine bcase_of_true rfl ?_
    unfold law03_TallyBounds.k8
    refine bcase_of_false (by simp) ?_
    unfold law03_TallyBounds.k7
    refine Sum_spec t3 hlen1 hcl fun h4 S4 => ⟨_, rfl, ?_⟩
    unfold law03_TallyBounds.k6
    refine bcase_of_false (by simp) ?_
    unfold law03_TallyBounds.k5
    exact bcase_of_false rfl (nxt h4 l (t3.keep S4) g1.up (S03.trans (S4.frame [b, r])))
  have took : ∀ (h4 : Hp) (c : Nat), TAt h4 b r most (cset l a.k c) → Step [r] h3 [r] h4 → c ≤ most → (if a.d then IntKind.wrap .u32 ((cget l a.k : Int) - (c : Int)) = a.n else IntKind.wrap .u32 ((c : Int) - (cget l a.k : Int)) = a.n) →
      law03_TallyBounds.k12 (some ⟨b, 0, none⟩) a.k h4 (most : Int) (Holds h) (c : Int) 0 (cget l a.k : Int) (sumOf l : Int) b1 I0 bb (i : Int) (fun vs _ => match vs with | [_, .int _ i] => len - i.toNat | _ => 0) h1 := by
    intro h4 c t4 S4 hcm hd
    have g4 : Good most (cset l a.k c) (i + 1) := g1.set hcm
    have ec : cget (cset l a.k c) a.k = c := by rw [g1.cget_set, if_pos rfl]
    have B4 : h4 b1 = some (.cells (acells a).toArray T.tenonlaw03_Act (0, 0)) := S4.block B3 (by simpa using n1r)
    have S04 : Step [] h [b, r] h4 := S03.trans (S4.weak (by simp) (by intro k hk; simp at hk ⊢; rcases hk with rfl | rfl <;> simp))
    unfold law03_TallyBounds.k12
    refine Of_spec t4 ⟨_, rfl, ?_⟩
    rw [ec]
    unfold law03_TallyBounds.k11
    refine bcase_of_false (decide_eq_false (by omega)) ?_
    unfold law03_TallyBounds.k10
    refine bcase_of_false (by simp) ?_
    unfold law03_TallyBounds.k9
    refine bcase_of_false rfl ?_
    unfold law03_TallyBounds.k5
    refine bcase_of_true rfl ?_
    unfold law03_TallyBounds.k4
    refine ⟨a.d, by rw [Addr.add_mk, cell_of B4]; rfl, ?_⟩
    have k2 : (a.d = false → IntKind.wrap .u32 ((c : Int) - (cget l a.k : Int)) = a.n) → law03_TallyBounds.k2 h4 b1 (c : Int) (cget l a.k : Int) (Holds h) I0 bb (i : Int) (fun vs _ => match vs with | [_, .int _ i] => len - i.toNat | _ => 0) h1 := by
      intro hd
      unfold law03_TallyBounds.k2
      refine ⟨a.d, by rw [Addr.add_mk, cell_of B4]; rfl, bcase_intro (fun hh => ?_) fun hh => nxt h4 _ t4 g4 S04⟩
      unfold law03_TallyBounds.k1
      refine ⟨a.n, by rw [Addr.add_mk, cell_of B4]; rfl, ?_⟩
      rw [hd (by simpa using hh)]
      exact bcase_of_false (by simp) (nxt h4 _ t4 g4 S04)
    refine bcase_intro (fun hh => ?_) fun hh => ?_
    · rw [hh, if_pos rfl] at hd
      unfold law03_TallyBounds.k3
      refine ⟨a.n, by rw [Addr.add_mk, cell_of B4]; rfl, ?_⟩
      rw [hd]
      exact bcase_of_false (by simp) (k2 fun hf => by rw [hh] at hf; cases hf)
    · rw [hh, if_neg (by simp)] at hd
      exact k2 fun _ => hd
  have kB : ∀ h4, Step [r] h3 [r] h4 → h4.cell? ((⟨b1, 0, none⟩ : Addr).add 1) = some (.int .u64 a.k) := fun h4 S4 => by
    rw [Addr.add_mk, cell_of (S4.block B3 (by simpa using n1r))]; rfl
  refine bcase_intro (fun hd => ?_) fun hd => ?_
  · unfold law03_TallyBounds.k13
    refine ⟨a.k, by rw [Addr.add_mk, cell_of B3]; rfl, a.n, by rw [Addr.add_mk, cell_of B3]; rfl, ?_⟩
    refine Down_spec t3 hbr (hcl _) (fun hlt => ⟨_, _, rfl, a.k, kB h3 (Step.refl _ _), refused⟩) fun hle h4 t4 S4 => ⟨_, _, rfl, a.k, kB h4 S4, took h4 _ t4 S4 (by have := g1.le a.k; omega) ?_⟩
    rw [hd, if_pos rfl]
    exact u32_wrap (by omega) han
  · unfold law03_TallyBounds.k14
    refine ⟨a.k, by rw [Addr.add_mk, cell_of B3]; rfl, a.n, by rw [Addr.add_mk, cell_of B3]; rfl, ?_⟩
    refine Up_spec t3 hbr hm (g1.le _) (fun hlt => ⟨_, _, rfl, a.k, kB h3 (Step.refl _ _), refused⟩) fun hle h4 t4 S4 => ⟨_, _, rfl, a.k, kB h4 S4, took h4 _ t4 S4 hle ?_⟩
    rw [hd, if_neg (by simp)]
    exact u32_wrap (by omega) han
end Go.Den.Tally
