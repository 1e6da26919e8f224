import Derived.Test.YtkpbmddfmmoomaaLeaseB
import Derived.Test.YtkpbmddfmmoomaaLSortG
import Derived.Test.YtkpbmddfmmoomaaLSort3
/- slices.Sorted(maps.Keys(m)): the map's keys, rising. -/
set_option linter.unusedVariables false
namespace Go.Den.Lease
open Go Go.Den Go.Sort

theorem slU64 : SliceTy P T.sl_uint64 T.uint64 1 := sliceTy_of (by kernel_rfl)
abbrev Any' : Value → Prop := fun _ => True

/-- An entry's key. -/
def kOf (e : MapEntry) : Int := match e.key with | .int _ k => k | _ => 0

theorem kOf_key {es : List MapEntry} {L : List (Int × Value)} (h : es.map (fun e => (e.key, e.val)) = L.map (fun p => (.int .u64 p.1, p.2))) : (∀ e ∈ es, e.key = .int .u64 (kOf e)) ∧ es.map kOf = L.map (·.1) := by
  induction es generalizing L with
  | nil =>
    cases L with
    | nil => simp
    | cons => simp at h
  | cons e es ih =>
    cases L with
    | nil => simp at h
    | cons p L =>
      simp only [List.map_cons, List.cons.injEq, Prod.mk.injEq] at h
      obtain ⟨⟨h1, h2⟩, h3⟩ := h
      obtain ⟨g1, g2⟩ := ih h3
      have hk : kOf e = p.1 := by unfold kOf; rw [h1]
      refine ⟨fun x hx => ?_, by simp [hk, g2]⟩
      rcases List.mem_cons.1 hx with rfl | hx
      · rw [hk]; exact h1
      · exact g1 x hx

theorem put_none {h : Hp} {b k : Nat} {x : Obj} (hk : (h.put b x) k = none) : k ≠ b ∧ h k = none := by
  by_cases e : k = b
  · subst e; rw [put_self] at hk; cases hk
  · rw [put_ne e] at hk; exact ⟨e, hk⟩

theorem nodup_of_map {α β : Type} {f : α → β} : ∀ {l : List α}, (l.map f).Nodup → l.Nodup
  | [], _ => .nil
  | x :: l, h => by
    simp only [List.map_cons, List.nodup_cons] at h
    exact List.nodup_cons.2 ⟨fun hx => h.1 (List.mem_map.2 ⟨x, hx, rfl⟩), nodup_of_map h.2⟩

/-- Those that have been seen, when none is left. -/
theorem seen_all {es dn : List MapEntry} (hs : ∀ e ∈ dn, e ∈ es) (hn : (dn.map (·.born)).Nodup) (hn' : (es.map (·.born)).Nodup) (ha : ∀ e ∈ es, e.born ∈ dn.map (·.born)) : dn.Perm es := by
  have nd : dn.Nodup := nodup_of_map hn
  have ne : es.Nodup := nodup_of_map hn'
  refine (List.perm_ext_iff_of_nodup nd ne).2 fun e => ⟨hs e, fun he => ?_⟩
  obtain ⟨x, hx, hxe⟩ := List.mem_map.1 (ha e he)
  have : x = e := by
    have hx' := hs x hx
    clear hs hn ha nd ne hx
    revert hn' he hx'
    induction es with
    | nil => intro _ he; cases he
    | cons y es ih =>
      intro hn' he hx'
      simp only [List.map_cons, List.nodup_cons] at hn'
      rcases List.mem_cons.1 he with h1 | he <;> rcases List.mem_cons.1 hx' with h2 | hx'
      · rw [h1, h2]
      · exact absurd (List.mem_map.2 ⟨x, hx', by rw [hxe, h1]⟩) hn'.1
      · exact absurd (List.mem_map.2 ⟨e, he, by rw [← hxe, h2]⟩) hn'.1
      · exact ih hn'.2 he hx'
  exact this ▸ hx

theorem seen_le {es dn : List MapEntry} (hs : ∀ e ∈ dn, e ∈ es) (hn : (dn.map (·.born)).Nodup) : dn.length ≤ es.length :=
  List.Nodup.length_le_of_subset (nodup_of_map hn) hs

theorem call_Keys_1 : callable P maps_Keys_map_uint64_int_uint64_int_1.n = true := by kernel_rfl

section
variable {h : Hp} {K : Value → Hp → Prop}

theorem AppendSeq_spec {fb r : Nat} {L : List (Int × Value)} (hf : h fb = some (.cells #[.map (some r)] T.map_uint64_int (0, 0))) (hm : MapAt h r .u64 L) (hL : L.length < 2147483648)
    (hk : ∀ h' a cap o ks, SlAt h' T.uint64 1 Any' a ks.length cap (u64s ks) o → ks.Perm (L.map (·.1)) → Step [] h o h' → K (.slice a ks.length cap) h') :
    HC P slices_AppendSeq_uint64_uint64.n #[.slice none 0 0, .func (.func maps_Keys_map_uint64_int_uint64_int_1.n) #[] #[.pointer (some ⟨fb, 0, none⟩)]] h K := by
  refine slices_AppendSeq_uint64_uint64.hc ?_
  unfold slices_AppendSeq_uint64_uint64
  intro b1 hb1
  refine trueD_intro call_Keys_1 ?_
  intro l R hl0 hbody
  obtain ⟨nl1, hl0⟩ := put_none hl0
  obtain ⟨es, c, e1, e2, B⟩ := hm
  obtain ⟨hkey, hks⟩ := kOf_key e2
  show HC P maps_Keys_map_uint64_int_uint64_int_1.n #[.func (.yield l) #[] #[], .pointer (some ⟨fb, 0, none⟩)] _ _
  refine maps_Keys_map_uint64_int_uint64_int_1.hc ?_
  unfold maps_Keys_map_uint64_int_uint64_int_1
  obtain ⟨H, hH⟩ : ∃ H, H = (h.put b1 (.cells #[.slice none 0 0] T.sl_uint64 (0, 0))).put l R.ready := ⟨_, rfl⟩
  rw [← hH]
  have Hold : ∀ k, h k ≠ none → H k = h k := by
    intro k hk
    have e1 : k ≠ b1 := fun e => hk (e ▸ hb1)
    have e4 : k ≠ l := fun e => hk (e ▸ hl0)
    subst hH; simp [put_get, e1, e4]
  have HS : Step [] h [l, b1] H := by
    rw [hH]; exact (Step.new hb1).trans (Step.new (by rw [put_ne nl1]; exact hl0))
  have Hl : H l = some R.ready := by subst hH; simp [put_get]
  have Hb1 : H b1 = some (.cells #[.slice none 0 0] T.sl_uint64 (0, 0)) := by subst hH; simp [put_get, Ne.symm nl1]
  have Hf : H fb = some (.cells #[.map (some r)] T.map_uint64_int (0, 0)) := by rw [Hold fb (by rw [hf]; simp)]; exact hf
  have Hr : H r = some (.map es c) := by rw [Hold r (by rw [e1]; simp)]; exact e1
  rw [someD_some]
  refine ⟨_, cell_of Hf, range_wp mty Hr fun it hit => ⟨it, rfl, ?_⟩⟩
  have nil : it ≠ l := fun e => by rw [e, Hl] at hit; cases hit
  have ni1 : it ≠ b1 := fun e => by rw [e, Hb1] at hit; cases hit
  have nir : it ≠ r := fun e => by rw [e, Hr] at hit; cases hit
  have nlr : l ≠ r := fun e => by rw [e, e1] at hl0; cases hl0
  have n1r : b1 ≠ r := fun e => by rw [e, e1] at hb1; cases hb1
  have elen : es.toList.length = L.length := by have := congrArg List.length e2; simpa using this
  refine ⟨fun vs hh => ∃ (dn : List MapEntry) (a : Option Addr) (cap : Nat) (os : List Nat), (∀ e ∈ dn, e ∈ es.toList) ∧ (dn.map (·.born)).Nodup ∧ hh it = some (.mapIter (some r) c (dn.map (·.born)).toArray c) ∧
    hh b1 = some (.cells #[.slice a dn.length cap] T.sl_uint64 (0, 0)) ∧ SlAt hh T.uint64 1 Any' a dn.length cap (u64s (dn.map kOf)) os ∧ hh l = some R.ready ∧ hh r = some (.map es c) ∧ Step [] h (it :: l :: b1 :: os) hh ∧ it ∉ os ∧ l ∉ os ∧ b1 ∉ os ∧ r ∉ os,
    fun vs hh => match hh it with | some (.mapIter _ _ seen _) => es.size - seen.size | _ => 0, ?_, ?_⟩
  · refine ⟨[], none, 0, [], by simp, by simp, put_self, by rw [put_ne (Ne.symm ni1)]; exact Hb1, .none, by rw [put_ne (Ne.symm nil)]; exact Hl, by rw [put_ne (Ne.symm nir)]; exact Hr, ?_, by simp, by simp, by simp, by simp⟩
    exact HS.trans (Step.new hit)
  rintro h1 ⟨dn, a, cap, os, hs, hn, g1, g2, g3, g4, g5, g6, d1, d2, d3, d4⟩
  have hle := seen_le hs hn
  refine next_wp g1 g5 B (fun hall => ?_) fun e he hne => ?_
  · refine .inl ⟨rfl, .inl ⟨g4, ?_⟩⟩
    have gb : (h1.put l R.over) b1 = some (.cells #[.slice a dn.length cap] T.sl_uint64 (0, 0)) := by rw [put_ne (Ne.symm nl1)]; exact g2
    refine ⟨_, _, _, cell_of gb, ?_⟩
    have hp := seen_all hs hn B.1 (fun e he => by simpa using hall e he)
    have := hk (h1.put l R.over) a cap os (dn.map kOf) (by rw [List.length_map]; exact g3.keep fun k hk => put_ne (fun e => d2 (e ▸ hk))) (by rw [← hks]; exact hp.map _) ((g6.trans (Step.put (b := l) (.inl (by simp)))).weak (by simp) (by intro k hk; exact .inl (by simp [hk])))
    rwa [List.length_map] at this
  · refine .inr ⟨_, _, rfl, ?_⟩
    have hne' : e.born ∉ dn.map (·.born) := by simpa using hne
    have epush : ((dn.map (·.born)).toArray.push e.born) = ((dn ++ [e]).map (·.born)).toArray := by simp
    have hitr : (h1.put it (.mapIter (some r) c ((dn.map (·.born)).toArray.push e.born) c)) it = some (.mapIter (some r) c ((dn.map (·.born)).toArray.push e.born) c) := put_self
    refine entry_wp hitr (by rw [put_ne (Ne.symm nir)]; exact g5) B he ⟨_, _, rfl, ?_⟩
    obtain ⟨h2, hh2⟩ : ∃ h2, h2 = h1.put it (.mapIter (some r) c ((dn.map (·.born)).toArray.push e.born) c) := ⟨_, rfl⟩
    rw [← hh2]
    have f1 : h2 it = some (.mapIter (some r) c ((dn ++ [e]).map (·.born)).toArray c) := by rw [hh2, put_self, epush]
    have f2 : h2 b1 = some (.cells #[.slice a dn.length cap] T.sl_uint64 (0, 0)) := by rw [hh2, put_ne (Ne.symm ni1)]; exact g2
    have f3 : SlAt h2 T.uint64 1 Any' a dn.length cap (u64s (dn.map kOf)) os := g3.keep fun k hk => by rw [hh2]; exact put_ne (fun e => d1 (e ▸ hk))
    have f4 : h2 l = some R.ready := by rw [hh2, put_ne (Ne.symm nil)]; exact g4
    have f5 : h2 r = some (.map es c) := by rw [hh2, put_ne (Ne.symm nir)]; exact g5
    have f6 : Step [] h (it :: l :: b1 :: os) h2 := g6.trans (by rw [hh2]; exact Step.put (.inl (by simp)))
    have hn2 : ((dn ++ [e]).map (·.born)).Nodup := by
      rw [List.map_append]
      refine List.nodup_append.2 ⟨hn, by simp, fun x hx y hy => ?_⟩
      simp at hy; subst hy
      exact fun e => hne' (e ▸ hx)
    have hs2 : ∀ x ∈ dn ++ [e], x ∈ es.toList := by
      intro x hx
      rcases List.mem_append.1 hx with hx | hx
      · exact hs x hx
      · simp at hx; exact hx ▸ he
    have hle2 := seen_le hs2 hn2
    rw [hkey e he]
    refine hbody _ _ _ f4 ⟨f4, ?_⟩
    have k2 : (h2.put l R.busy) b1 = some (.cells #[.slice a dn.length cap] T.sl_uint64 (0, 0)) := by rw [put_ne (Ne.symm nl1)]; exact f2
    refine ⟨_, _, _, cell_of k2, fun b2 hb2 => ?_⟩
    have k3 : SlAt (h2.put l R.busy) T.uint64 1 Any' a dn.length cap (u64s (dn.map kOf)) os := f3.keep fun k hk => put_ne (fun e => d2 (e ▸ hk))
    refine pushV_wp slU64 (fun _ _ _ _ _ _ => trivial) k3 hb2 (by simp at hle2; omega) rfl fun a' cap' o' h3 s1 s2 => ⟨_, _, _, rfl, ?_⟩
    have nin : ∀ k, k ∉ os → (h2.put l R.busy) k ≠ none → k ∉ o' := fun k hk hne hm => (s2.own k hm).elim hk hne
    have m1 := s2.block k2 d3
    have m2 := s2.block (put_self (h := h2) (b := l) (o := R.busy)) d2
    have m3 := s2.block (show (h2.put l R.busy) it = _ by rw [put_ne nil]; exact f1) d1
    have m4 := s2.block (show (h2.put l R.busy) r = _ by rw [put_ne (Ne.symm nlr)]; exact f5) d4
    have d1' := nin it d1 (by rw [put_ne nil, f1]; simp)
    have d2' := nin l d2 (by rw [put_self]; simp)
    have d3' := nin b1 d3 (by rw [k2]; simp)
    have d4' := nin r d4 (by rw [put_ne (Ne.symm nlr), f5]; simp)
    have el : dn.length + 1 = (dn ++ [e]).length := by simp
    rw [el] at s1 ⊢
    refine ⟨⟨_, cell_of m1⟩, frozen_of m1, ?_⟩
    rw [setCell_of m1]
    have c1 : ((#[.slice a dn.length cap] : Array Value).setIfInBounds 0 (.slice a' (dn ++ [e]).length cap')) = #[.slice a' (dn ++ [e]).length cap'] := rfl
    rw [c1]
    refine ⟨by rw [put_ne nl1]; exact m2, ?_⟩
    refine ⟨true, rfl, ?_⟩
    rw [show (!true) = false from rfl, bcase_false]
    refine ⟨⟨dn ++ [e], a', cap', o', hs2, hn2, ?_, ?_, ?_, put_self, ?_, ?_, d1', d2', d3', d4'⟩, ?_⟩
    · rw [put_ne nil, put_ne ni1]; exact m3
    · rw [put_ne (Ne.symm nl1), put_self]
    · have : u64s (dn.map kOf) ++ [Value.int .u64 (kOf e)] = u64s ((dn ++ [e]).map kOf) := by simp [u64s]
      rw [this] at s1
      refine s1.keep fun k hk => ?_
      have q1 : k ≠ l := fun e => d2' (e ▸ hk)
      have q2 : k ≠ b1 := fun e => d3' (e ▸ hk)
      rw [put_ne q1, put_ne q2]
    · rw [put_ne (Ne.symm nlr), put_ne (Ne.symm n1r)]; exact m4
    · refine f6.trans (Step.trans (Step.put (b := l) (.inl (by simp))) (Step.trans ((s2.frame [it, l, b1]).weak (by intro k hk; simp at hk ⊢; rcases hk with h | h | h | h <;> simp [h]) (p' := it :: l :: b1 :: o') (by intro k hk; simp at hk ⊢; rcases hk with h | h | h | h <;> simp [h])) (Step.trans (Step.put (.inl (by simp))) (Step.put (.inl (by simp))))))
    · simp only [put_ne nil, put_ne ni1, m3, g1]
      simp only [List.size_toArray, List.length_map]
      have : es.toList.length = es.size := by simp
      simp at hle2 ⊢
      omega
end
end Go.Den.Lease
