import Derived.Test.YtjfaaecoaicfpaaB26
import Derived.KernelRfl
import Derived.Shelf.SlMaps.Clone
/- Texts that the claim needs, joined. -/
section
set_option linter.unusedVariables false
set_option maxRecDepth 100000
namespace Go.Den.Stub
open Go Go.Den

noncomputable section

def maps_Keys_map_uint64_uint32_uint64_uint32_1 (l0 : Nat) (fv0 : Option Addr) (K : Value → Hp → Prop) (h : Hp) : Prop :=
 someD fv0 (fun p0 => (∃ r0 : Option Nat, ((h.cell? p0) = (some (.map r0))) ∧ wpSem P (Instr.range T.map_uint64_uint32 (.map r0)) (fun v0 h0 => (∃ r1 : Nat, (v0 = (.pointer (some ⟨r1, 0, none⟩))) ∧ (∃ I0 : List Value → Hp → Prop, (∃ x0 : List Value → Hp → Nat, (I0 [] h0) ∧ (∀ h1 : Hp, (I0 [] h1 → wpSem P (Instr.next (.pointer (some ⟨r1, 0, none⟩)) Bool.false T.unit) (fun v1 h2 => (((v1 = (.tuple #[.bool Bool.false])) ∧ K (.tuple #[]) h2) ∨ (∃ x1 : Value, (∃ y0 : Value, (v1 = (.tuple #[.bool Bool.true, x1, y0])) ∧ wpSem P (Instr.entry (.pointer (some ⟨r1, 0, none⟩))) (fun v2 h3 => (∃ x2 : Value, (∃ y1 : Value, (v2 = (.tuple #[x2, y1])) ∧ HY P l0 #[x2] h3 (fun v3 h4 => (∃ b0 : Bool, (v3 = (.bool b0)) ∧ bcase ((!b0))
 (K (.tuple #[]) h4)
 ((I0 [] h4) ∧ (x0 [] h4) < (x0 [] h1))))))) h2)))) h1)))))) h))
theorem maps_Keys_map_uint64_uint32_uint64_uint32_1.hc {l0 : Nat} {fv0 : Option Addr} {K : Value → Hp → Prop} {h : Hp} (hh : maps_Keys_map_uint64_uint32_uint64_uint32_1 l0 fv0 K h) : HC P maps_Keys_map_uint64_uint32_uint64_uint32_1.n #[.func (.yield l0) #[] #[], .pointer fv0] h K :=
  HC_of_den (fn := Go.Proofs.Try.f97) (args := [.func (.yield l0) #[] #[], .pointer fv0]) Go.Proofs.Try.func97 rfl (Nat.le_of_ble_eq_true (by kernel_rfl)) (den_cast hh (by kernel_rfl))

end
end Go.Den.Stub
end

section
set_option linter.unusedVariables false
set_option maxRecDepth 20000
namespace Go.Den.Stub
open Go Go.Den Go.Sort

theorem slU64 : SliceTy P T.sl_uint64 T.uint64 1 := sliceTy_of (by kernel_rfl)
abbrev Any' : Value → Prop := fun _ => True

/-- An entry's key. -/
def kOf (e : MapEntry) : Int := match e.key with | .int _ k => k | _ => 0

theorem kOf_key {es : List MapEntry} {L : List (Int × Value)} (h : es.map (fun e => (e.key, e.val)) = L.map (fun p => (.int .u64 p.1, p.2))) : (∀ e ∈ es, e.key = .int .u64 (kOf e)) ∧ es.map kOf = L.map (·.1) := by
  induction es generalizing L with
  | nil =>
    cases L with
    | nil => simp
    | cons => simp at h
  | cons e es ih =>
    cases L with
    | nil => simp at h
    | cons p L =>
      simp only [List.map_cons, List.cons.injEq, Prod.mk.injEq] at h
      obtain ⟨⟨h1, h2⟩, h3⟩ := h
      obtain ⟨g1, g2⟩ := ih h3
      have hk : kOf e = p.1 := by unfold kOf; rw [h1]
      refine ⟨fun x hx => ?_, by simp [hk, g2]⟩
      rcases List.mem_cons.1 hx with rfl | hx
      · rw [hk]; exact h1
      · exact g1 x hx

theorem put_none {h : Hp} {b k : Nat} {x : Obj} (hk : (h.put b x) k = none) : k ≠ b ∧ h k = none := by
  by_cases e : k = b
  · subst e; rw [put_self] at hk; cases hk
  · rw [put_ne e] at hk; exact ⟨e, hk⟩

theorem nodup_of_map {α β : Type} {f : α → β} : ∀ {l : List α}, (l.map f).Nodup → l.Nodup
  | [], _ => .nil
  | x :: l, h => by
    simp only [List.map_cons, List.nodup_cons] at h
    exact List.nodup_cons.2 ⟨fun hx => h.1 (List.mem_map.2 ⟨x, hx, rfl⟩), nodup_of_map h.2⟩

/-- Those that have been seen, when none is left. -/
theorem seen_all {es dn : List MapEntry} (hs : ∀ e ∈ dn, e ∈ es) (hn : (dn.map (·.born)).Nodup) (hn' : (es.map (·.born)).Nodup) (ha : ∀ e ∈ es, e.born ∈ dn.map (·.born)) : dn.Perm es := by
  have nd : dn.Nodup := nodup_of_map hn
  have ne : es.Nodup := nodup_of_map hn'
  refine (List.perm_ext_iff_of_nodup nd ne).2 fun e => ⟨hs e, fun he => ?_⟩
  obtain ⟨x, hx, hxe⟩ := List.mem_map.1 (ha e he)
  have : x = e := by
    have hx' := hs x hx
    clear hs hn ha nd ne hx
    revert hn' he hx'
    induction es with
    | nil => intro _ he; cases he
    | cons y es ih =>
      intro hn' he hx'
      simp only [List.map_cons, List.nodup_cons] at hn'
      rcases List.mem_cons.1 he with h1 | he <;> rcases List.mem_cons.1 hx' with h2 | hx'
      · rw [h1, h2]
      · exact absurd (List.mem_map.2 ⟨x, hx', by rw [hxe, h1]⟩) hn'.1
      · exact absurd (List.mem_map.2 ⟨e, he, by rw [← hxe, h2]⟩) hn'.1
      · exact ih hn'.2 he hx'
  exact this ▸ hx

theorem seen_le {es dn : List MapEntry} (hs : ∀ e ∈ dn, e ∈ es) (hn : (dn.map (·.born)).Nodup) : dn.length ≤ es.length :=
  List.Nodup.length_le_of_subset (nodup_of_map hn) hs

theorem call_Keys_1 : callable P maps_Keys_map_uint64_uint32_uint64_uint32_1.n = true := by kernel_rfl

section
variable {h : Hp} {K : Value → Hp → Prop}

theorem AppendSeq_spec {fb r : Nat} {L : List (Int × Value)} (hf : h fb = some (.cells #[.map (some r)] T.map_uint64_uint32 (0, 0))) (hm : MapAt h r .u64 L) (hL : L.length < 2147483648)
    (hk : ∀ h' a cap o ks, SlAt h' T.uint64 1 Any' a ks.length cap (u64s ks) o → ks.Perm (L.map (·.1)) → Step [] h o h' → K (.slice a ks.length cap) h') :
    HC P slices_AppendSeq_uint64_uint64.n #[.slice none 0 0, .func (.func maps_Keys_map_uint64_uint32_uint64_uint32_1.n) #[] #[.pointer (some ⟨fb, 0, none⟩)]] h K := by
  refine slices_AppendSeq_uint64_uint64.hc ?_
  unfold slices_AppendSeq_uint64_uint64
  intro b1 hb1
  refine trueD_intro call_Keys_1 ?_
  intro l R hl0 hbody
  obtain ⟨nl1, hl0⟩ := put_none hl0
  obtain ⟨es, c, e1, e2, B⟩ := hm
  obtain ⟨hkey, hks⟩ := kOf_key e2
  show HC P maps_Keys_map_uint64_uint32_uint64_uint32_1.n #[.func (.yield l) #[] #[], .pointer (some ⟨fb, 0, none⟩)] _ _
  refine maps_Keys_map_uint64_uint32_uint64_uint32_1.hc ?_
  unfold maps_Keys_map_uint64_uint32_uint64_uint32_1
  obtain ⟨H, hH⟩ : ∃ H, H = (h.put b1 (.cells #[.slice none 0 0] T.sl_uint64 (0, 0))).put l R.ready := ⟨_, rfl⟩
  rw [← hH]
  have Hold : ∀ k, h k ≠ none → H k = h k := by
    intro k hk
    have e1 : k ≠ b1 := fun e => hk (e ▸ hb1)
    have e4 : k ≠ l := fun e => hk (e ▸ hl0)
    subst hH; simp [put_get, e1, e4]
  have HS : Step [] h [l, b1] H := by
    rw [hH]; exact (Step.new hb1).trans (Step.new (by rw [put_ne nl1]; exact hl0))
  have Hl : H l = some R.ready := by subst hH; simp [put_get]
  have Hb1 : H b1 = some (.cells #[.slice none 0 0] T.sl_uint64 (0, 0)) := by subst hH; simp [put_get, Ne.symm nl1]
  have Hf : H fb = some (.cells #[.map (some r)] T.map_uint64_uint32 (0, 0)) := by rw [Hold fb (by rw [hf]; simp)]; exact hf
  have Hr : H r = some (.map es c) := by rw [Hold r (by rw [e1]; simp)]; exact e1
  rw [someD_some]
  refine ⟨_, cell_of Hf, range_wp mty Hr fun it hit => ⟨it, rfl, ?_⟩⟩
  have nil : it ≠ l := fun e => by rw [e, Hl] at hit; cases hit
  have ni1 : it ≠ b1 := fun e => by rw [e, Hb1] at hit; cases hit
  have nir : it ≠ r := fun e => by rw [e, Hr] at hit; cases hit
  have nlr : l ≠ r := fun e => by rw [e, e1] at hl0; cases hl0
  have n1r : b1 ≠ r := fun e => by rw [e, e1] at hb1; cases hb1
  have elen : es.toList.length = L.length := by have := congrArg List.length e2; simpa using this
  refine ⟨fun vs hh => ∃ (dn : List MapEntry) (a : Option Addr) (cap : Nat) (os : List Nat), (∀ e ∈ dn, e ∈ es.toList) ∧ (dn.map (·.born)).Nodup ∧ hh it = some (.mapIter (some r) c (dn.map (·.born)).toArray c) ∧
    hh b1 = some (.cells #[.slice a dn.length cap] T.sl_uint64 (0, 0)) ∧ SlAt hh T.uint64 1 Any' a dn.length cap (u64s (dn.map kOf)) os ∧ hh l = some R.ready ∧ hh r = some (.map es c) ∧ Step [] h (it :: l :: b1 :: os) hh ∧ it ∉ os ∧ l ∉ os ∧ b1 ∉ os ∧ r ∉ os,
    fun vs hh => match hh it with | some (.mapIter _ _ seen _) => es.size - seen.size | _ => 0, ?_, ?_⟩
  · refine ⟨[], none, 0, [], by simp, by simp, put_self, by rw [put_ne (Ne.symm ni1)]; exact Hb1, .none, by rw [put_ne (Ne.symm nil)]; exact Hl, by rw [put_ne (Ne.symm nir)]; exact Hr, ?_, by simp, by simp, by simp, by simp⟩
    exact HS.trans (Step.new hit)
  rintro h1 ⟨dn, a, cap, os, hs, hn, g1, g2, g3, g4, g5, g6, d1, d2, d3, d4⟩
  have hle := seen_le hs hn
  refine next_wp g1 g5 B (fun hall => ?_) fun e he hne => ?_
  · refine .inl ⟨rfl, .inl ⟨g4, ?_⟩⟩
    have gb : (h1.put l R.over) b1 = some (.cells #[.slice a dn.length cap] T.sl_uint64 (0, 0)) := by rw [put_ne (Ne.symm nl1)]; exact g2
    refine ⟨_, _, _, cell_of gb, ?_⟩
    have hp := seen_all hs hn B.1 (fun e he => by simpa using hall e he)
    have := hk (h1.put l R.over) a cap os (dn.map kOf) (by rw [List.length_map]; exact g3.keep fun k hk => put_ne (fun e => d2 (e ▸ hk))) (by rw [← hks]; exact hp.map _) ((g6.trans (Step.put (b := l) (.inl (by simp)))).weak (by simp) (by intro k hk; exact .inl (by simp [hk])))
    rwa [List.length_map] at this
  · refine .inr ⟨_, _, rfl, ?_⟩
    have hne' : e.born ∉ dn.map (·.born) := by simpa using hne
    have epush : ((dn.map (·.born)).toArray.push e.born) = ((dn ++ [e]).map (·.born)).toArray := by simp
    have hitr : (h1.put it (.mapIter (some r) c ((dn.map (·.born)).toArray.push e.born) c)) it = some (.mapIter (some r) c ((dn.map (·.born)).toArray.push e.born) c) := put_self
    refine entry_wp hitr (by rw [put_ne (Ne.symm nir)]; exact g5) B he ⟨_, _, rfl, ?_⟩
    obtain ⟨h2, hh2⟩ : ∃ h2, h2 = h1.put it (.mapIter (some r) c ((dn.map (·.born)).toArray.push e.born) c) := ⟨_, rfl⟩
    rw [← hh2]
    have f1 : h2 it = some (.mapIter (some r) c ((dn ++ [e]).map (·.born)).toArray c) := by rw [hh2, put_self, epush]
    have f2 : h2 b1 = some (.cells #[.slice a dn.length cap] T.sl_uint64 (0, 0)) := by rw [hh2, put_ne (Ne.symm ni1)]; exact g2
    have f3 : SlAt h2 T.uint64 1 Any' a dn.length cap (u64s (dn.map kOf)) os := g3.keep fun k hk => by rw [hh2]; exact put_ne (fun e => d1 (e ▸ hk))
    have f4 : h2 l = some R.ready := by rw [hh2, put_ne (Ne.symm nil)]; exact g4
    have f5 : h2 r = some (.map es c) := by rw [hh2, put_ne (Ne.symm nir)]; exact g5
    have f6 : Step [] h (it :: l :: b1 :: os) h2 := g6.trans (by rw [hh2]; exact Step.put (.inl (by simp)))
    have hn2 : ((dn ++ [e]).map (·.born)).Nodup := by
      rw [List.map_append]
      refine List.nodup_append.2 ⟨hn, by simp, fun x hx y hy => ?_⟩
      simp at hy; subst hy
      exact fun e => hne' (e ▸ hx)
    have hs2 : ∀ x ∈ dn ++ [e], x ∈ es.toList := by
      intro x hx
      rcases List.mem_append.1 hx with hx | hx
      · exact hs x hx
      · simp at hx; exact hx ▸ he
    have hle2 := seen_le hs2 hn2
    rw [hkey e he]
    refine hbody _ _ _ f4 ⟨f4, ?_⟩
    have k2 : (h2.put l R.busy) b1 = some (.cells #[.slice a dn.length cap] T.sl_uint64 (0, 0)) := by rw [put_ne (Ne.symm nl1)]; exact f2
    refine ⟨_, _, _, cell_of k2, fun b2 hb2 => ?_⟩
    have k3 : SlAt (h2.put l R.busy) T.uint64 1 Any' a dn.length cap (u64s (dn.map kOf)) os := f3.keep fun k hk => put_ne (fun e => d2 (e ▸ hk))
    refine pushV_wp slU64 (fun _ _ _ _ _ _ => trivial) k3 hb2 (by simp at hle2; omega) rfl fun a' cap' o' h3 s1 s2 => ⟨_, _, _, rfl, ?_⟩
    have nin : ∀ k, k ∉ os → (h2.put l R.busy) k ≠ none → k ∉ o' := fun k hk hne hm => (s2.own k hm).elim hk hne
    have m1 := s2.block k2 d3
    have m2 := s2.block (put_self (h := h2) (b := l) (o := R.busy)) d2
    have m3 := s2.block (show (h2.put l R.busy) it = _ by rw [put_ne nil]; exact f1) d1
    have m4 := s2.block (show (h2.put l R.busy) r = _ by rw [put_ne (Ne.symm nlr)]; exact f5) d4
    have d1' := nin it d1 (by rw [put_ne nil, f1]; simp)
    have d2' := nin l d2 (by rw [put_self]; simp)
    have d3' := nin b1 d3 (by rw [k2]; simp)
    have d4' := nin r d4 (by rw [put_ne (Ne.symm nlr), f5]; simp)
    have el : dn.length + 1 = (dn ++ [e]).length := by simp
    rw [el] at s1 ⊢
    refine ⟨⟨_, cell_of m1⟩, frozen_of m1, ?_⟩
    rw [setCell_of m1]
    have c1 : ((#[.slice a dn.length cap] : Array Value).setIfInBounds 0 (.slice a' (dn ++ [e]).length cap')) = #[.slice a' (dn ++ [e]).length cap'] := rfl
    rw [c1]
    refine ⟨by rw [put_ne nl1]; exact m2, ?_⟩
    refine ⟨true, rfl, ?_⟩
    rw [show (!true) = false from rfl, bcase_false]
    refine ⟨⟨dn ++ [e], a', cap', o', hs2, hn2, ?_, ?_, ?_, put_self, ?_, ?_, d1', d2', d3', d4'⟩, ?_⟩
    · rw [put_ne nil, put_ne ni1]; exact m3
    · rw [put_ne (Ne.symm nl1), put_self]
    · have : u64s (dn.map kOf) ++ [Value.int .u64 (kOf e)] = u64s ((dn ++ [e]).map kOf) := by simp [u64s]
      rw [this] at s1
      refine s1.keep fun k hk => ?_
      have q1 : k ≠ l := fun e => d2' (e ▸ hk)
      have q2 : k ≠ b1 := fun e => d3' (e ▸ hk)
      rw [put_ne q1, put_ne q2]
    · rw [put_ne (Ne.symm nlr), put_ne (Ne.symm n1r)]; exact m4
    · refine f6.trans (Step.trans (Step.put (b := l) (.inl (by simp))) (Step.trans ((s2.frame [it, l, b1]).weak (by intro k hk; simp at hk ⊢; rcases hk with h | h | h | h <;> simp [h]) (p' := it :: l :: b1 :: o') (by intro k hk; simp at hk ⊢; rcases hk with h | h | h | h <;> simp [h])) (Step.trans (Step.put (.inl (by simp))) (Step.put (.inl (by simp))))))
    · simp only [put_ne nil, put_ne ni1, m3, g1]
      simp only [List.size_toArray, List.length_map]
      have : es.toList.length = es.size := by simp
      simp at hle2 ⊢
      omega
end
end Go.Den.Stub
end

section
set_option linter.unusedVariables false
set_option maxRecDepth 20000
namespace Go.Den.Stub
open Go Go.Den Go.Sort Go.Shelf

section
variable {h : Hp} {K : Value → Hp → Prop}

theorem insertion_none {cap : Nat} (hk : K (.tuple #[]) h) : HC P slices_insertionSortOrdered_uint64.n #[.slice none 0 cap, .int .i64 0, .int .i64 0] h K := by
  refine slices_insertionSortOrdered_uint64.hc ?_
  unfold slices_insertionSortOrdered_uint64
  rw [show IntKind.wrap .i64 ((0 : Int) + 1) = 1 from rfl]
  refine ⟨fun vs hh => vs = [.int .i64 1] ∧ hh = h, fun _ _ => 0, ⟨rfl, rfl⟩, ?_⟩
  rintro h0 n2 ⟨he, rfl⟩
  cases he
  exact sbcase_false (by decide) hk

theorem pdq_none {cap : Nat} {lim : Int} (hk : K (.tuple #[]) h) : HC P slices_pdqsortOrdered_uint64.n #[.slice none 0 cap, .int .i64 0, .int .i64 0, .int .i64 lim] h K := by
  refine slices_pdqsortOrdered_uint64.hc ?_
  unfold slices_pdqsortOrdered_uint64
  refine ⟨fun vs hh => vs = [.int .i64 lim, .bool true, .int .i64 0, .bool true, .int .i64 0] ∧ hh = h, fun _ _ => 0, ⟨rfl, rfl⟩, ?_⟩
  rintro h0 n3 b0 n4 b1 n5 ⟨he, rfl⟩
  cases he
  exact sbcase_true (by decide) (insertion_none hk)

theorem sorted_list {d : Array Int} {n : Nat} (hn : d.size = n) (h : SortedIn slt 0 n d) : d.toList.Pairwise (· ≤ ·) := by
  rw [List.pairwise_iff_getElem]
  intro i j hi hj hij
  have := h i j (by omega) hij (by simpa [hn] using hj)
  simp at hi hj
  rw [getElem!_pos d j hj, getElem!_pos d i hi] at this
  simp [slt] at this
  simpa using this

theorem Sort_spec {a : Option Addr} {cap : Nat} {ks : List Int} {o : List Nat} {Z : Value → Prop} (hs : SlAt h T.uint64 1 Z a ks.length cap (u64s ks) o) (hl : ks.length < 2147483648)
    (hk : ∀ h' ks', SlAt h' T.uint64 1 Z a ks'.length cap (u64s ks') o → ks'.Perm ks → ks'.Pairwise (· ≤ ·) → Step o h o h' → K (.tuple #[]) h') : HC P slices_Sort_uint64_uint64.n #[.slice a ks.length cap] h K := by
  refine slices_Sort_uint64_uint64.hc ?_
  unfold slices_Sort_uint64_uint64
  rw [u64_wrap (by omega)]
  refine len_spec (by omega) ⟨_, rfl, ?_⟩
  unfold slices_Sort_uint64_uint64.k0
  obtain ⟨n, hn⟩ : ∃ n, n = ks.length := ⟨_, rfl⟩
  rw [← hn] at hs ⊢
  obtain ⟨vs, hvs⟩ : ∃ vs, vs = u64s ks := ⟨_, rfl⟩
  rw [← hvs] at hs
  cases hs with
  | none =>
    have : ks = [] := List.length_eq_zero_iff.1 hn.symm
    subst this
    exact pdq_none (hk h [] .none .rfl .nil (Step.refl _ _))
  | @some b off len cap pre vs rest post hb hp h1 h2 h3 h4 =>
    subst hvs hp hn
    have A : Arr b pre (rest ++ post) h ks.toArray := ⟨by rw [hb]⟩
    have hsz : ks.toArray.size = ks.length := by simp
    have e0 : bitsLen ks.length ≤ 62 := (bitsLen_le_iff _ 62).2 (by omega)
    have := pdq_spec (q := b) (pre := pre) (post := rest ++ post) ks.length ks.toArray 0 ks.length (bitsLen ks.length) cap h (fun _ h1 => K (.tuple #[]) h1) (by omega) A (by omega) (by omega) (by omega) (by omega) (.inl rfl) fun h' A' S' => ?_
    · rw [hsz] at this; exact this
    obtain ⟨hp, hss⟩ := sort_sorts slt slt_swo ks.toArray
    unfold Go.Sort.sort at hp hss
    rw [hsz] at hp hss
    obtain ⟨d, hd⟩ : ∃ d, d = pdq slt ks.toArray 0 ks.length (bitsLen ks.length) true true := ⟨_, rfl⟩
    rw [← hd] at hp hss A'
    have hds : d.size = ks.length := by rw [hp.1]; simp
    have hperm : d.toList.Perm ks := by
      have := hp.2.2
      rw [← hds, Array.extract_size] at this
      rw [hds, ← hsz, Array.extract_size] at this
      simpa using this
    refine hk h' d.toList (.some (pre := pre) (rest := rest) (post := post) A'.blk rfl (by simp [u64s]) ?_ (by simp [hds]; exact h3) h4) hperm (sorted_list hds hss) S'
    simp [hds]; simpa using h2

theorem Collect_spec {fb r : Nat} {L : List (Int × Value)} (hf : h fb = some (.cells #[.map (some r)] T.map_uint64_uint32 (0, 0))) (hm : MapAt h r .u64 L) (hL : L.length < 2147483648)
    (hk : ∀ h' a cap o ks, SlAt h' T.uint64 1 Any' a ks.length cap (u64s ks) o → ks.Perm (L.map (·.1)) → Step [] h o h' → K (.slice a ks.length cap) h') :
    HC P slices_Collect_uint64.n #[.func (.func maps_Keys_map_uint64_uint32_uint64_uint32_1.n) #[] #[.pointer (some ⟨fb, 0, none⟩)]] h K :=
  slices_Collect_uint64.hc (AppendSeq_spec hf hm hL fun h' a cap o ks g1 g2 g3 => ⟨_, _, _, rfl, hk h' a cap o ks g1 g2 g3⟩)

theorem Sorted_spec {fb r : Nat} {L : List (Int × Value)} (hf : h fb = some (.cells #[.map (some r)] T.map_uint64_uint32 (0, 0))) (hm : MapAt h r .u64 L) (hL : L.length < 2147483648)
    (hk : ∀ h' a cap o ks, SlAt h' T.uint64 1 Any' a ks.length cap (u64s ks) o → ks.Perm (L.map (·.1)) → ks.Pairwise (· ≤ ·) → Step [] h o h' → K (.slice a ks.length cap) h') :
    HC P slices_Sorted_uint64.n #[.func (.func maps_Keys_map_uint64_uint32_uint64_uint32_1.n) #[] #[.pointer (some ⟨fb, 0, none⟩)]] h K := by
  refine slices_Sorted_uint64.hc (Collect_spec hf hm hL fun h' a cap o ks g1 g2 g3 => ⟨_, _, _, rfl, ?_⟩)
  have hl : ks.length = L.length := by rw [g2.length_eq]; simp
  refine Sort_spec g1 (by omega) fun h2 ks' k1 k2 k3 k4 => ?_
  have := hk h2 a cap o ks' k1 (k2.trans g2) k3 (g3.trans k4)
  rwa [k2.length_eq] at this

theorem Keys_spec {m : Option Nat} (hk : ∀ b, h b = none → K (.func (.func maps_Keys_map_uint64_uint32_uint64_uint32_1.n) #[] #[.pointer (some ⟨b, 0, none⟩)]) (h.put b (.cells #[.map m] T.map_uint64_uint32 (0, 0)))) :
    HC P maps_Keys_map_uint64_uint32_uint64_uint32.n #[.map m] h K := maps_Keys_map_uint64_uint32_uint64_uint32.hc hk

def clone_ren : Ren := ⟨fun | 5 => 77 | 7 => 95 | n => n, fun | 4 => 4 | 20 => 20 | 23 => 128 | 25 => 23 | 3 => 28 | n => n, fun n => n⟩
theorem clone_lays : Go.Proofs.SlLaysW.n5 P clone_ren where
  mixed := by kernel_rfl
  f5 := ⟨Go.Proofs.Try.f77.name, by decide, Go.Proofs.Try.func77.trans (congrArg some (by kernel_rfl))⟩
  f7 := Go.Proofs.Try.func95.trans (congrArg some (by kernel_rfl))
  t4 := Go.Proofs.Try.underlying4
  a4 := Go.Proofs.Try.isAgg4
  z4 := Go.Proofs.Try.sizeOf4
  v4 := Go.Proofs.Try.zeroValue4
  t20 := Go.Proofs.Try.underlying20
  a20 := Go.Proofs.Try.isAgg20
  z20 := Go.Proofs.Try.sizeOf20
  v20 := Go.Proofs.Try.zeroValue20
  t23 := Go.Proofs.Try.underlying128
  a23 := Go.Proofs.Try.isAgg128
  z23 := Go.Proofs.Try.sizeOf128
  v23 := Go.Proofs.Try.zeroValue128

theorem Clone_spec {r : Nat} {L : List (Int × Value)} (hm : MapAt h r .u64 L) (hk : ∀ h' b, h b = none → MapAt h' b .u64 L → Step [] h [b] h' → K (.map (some b)) h') :
    HC P maps_Clone_map_uint64_uint32_uint64_uint32.n #[.map (some r)] h K := by
  obtain ⟨es, c, e1, e2, B⟩ := hm
  intro w hw
  subst hw
  obtain ⟨g1, -⟩ := hp_some e1
  refine (callsIn_wide.2 (Go.Proofs.AnyW.maps_Clone clone_lays r es c w g1)).mono ?_
  rintro e w' ⟨rfl, rfl⟩
  have e : hp (w.alloc (.map es c)) = (hp w).put w.heap.size (.map es c) := hp_alloc w (.map es c) rfl
  refine ⟨_, rfl, Amb.alloc _ _, ?_⟩
  rw [e]
  exact hk _ _ (hp_size w) ⟨es, c, put_self, e2, B⟩ (Step.new (hp_size w))
end
end Go.Den.Stub
end

section
set_option linter.unusedVariables false
set_option maxRecDepth 20000
namespace Go.Den.Stub
open Go Go.Den

/-- A tally's keys, rising. -/
def keysOf (L : List (Int × Nat)) : List Int := (L.map (·.1)).mergeSort fun a b => decide (a ≤ b)

theorem keysOf_perm {L : List (Int × Nat)} : (keysOf L).Perm (L.map (·.1)) := List.mergeSort_perm _ _
theorem keysOf_len {L : List (Int × Nat)} : (keysOf L).length = L.length := by rw [keysOf_perm.length_eq]; simp
theorem keysOf_sorted {L : List (Int × Nat)} : (keysOf L).Pairwise (· ≤ ·) := by
  have := List.pairwise_mergeSort (le := fun a b : Int => decide (a ≤ b)) (by simp; intro a b c; omega) (by simp; intro a b; omega) (L.map (·.1))
  exact this.imp (by simp)

theorem sorted_unique : ∀ {a b : List Int}, a.Perm b → a.Pairwise (· ≤ ·) → b.Pairwise (· ≤ ·) → a = b
  | [], b, p, _, _ => by rw [List.nil_perm.1 p]
  | x :: a, [], p, _, _ => by simpa using p.length_eq
  | x :: a, y :: b, p, ha, hb => by
    simp only [List.pairwise_cons] at ha hb
    have e : x = y := by
      have h1 : x ∈ y :: b := p.subset (by simp)
      have h2 : y ∈ x :: a := p.symm.subset (by simp)
      rcases List.mem_cons.1 h1 with e | h1
      · exact e
      rcases List.mem_cons.1 h2 with e | h2
      · exact e.symm
      exact Int.le_antisymm (ha.1 _ h2) (hb.1 _ h1)
    subst e
    rw [sorted_unique ((List.perm_cons _).1 p) ha.2 hb.2]

theorem keysOf_eq {L : List (Int × Nat)} {ks : List Int} (p : ks.Perm (L.map (·.1))) (s : ks.Pairwise (· ≤ ·)) : ks = keysOf L := sorted_unique (p.trans keysOf_perm.symm) s keysOf_sorted

theorem put_block {h : Hp} {b k : Nat} {o x : Obj} (hk : h k = some x) (hne : k ≠ b) : (h.put b o) k = some x := by rw [put_ne hne]; exact hk

variable {h : Hp} {b r most : Nat} {l : List (Int × Nat)} {K : Value → Hp → Prop}

theorem All_1_spec {fb lb : Nat} {p : List Nat} {I : Nat → List Nat → Hp → Prop} (t : TAt h b r most l) (hL : l.length < 2147483648)
    (hf : h.cell? ⟨fb, 0, none⟩ = some (.pointer (some ⟨b, 0, none⟩))) (hp : ∀ k ∈ p, h k ≠ none) (h0 : ∀ h', Step [] h [] h' → I 0 p h')
    (hy : ∀ i k o' h', (keysOf l)[i]? = some k → I i o' h' → HY P lb #[.int .u64 k, .int .u32 (cget l k : Int)] h' fun v h'' =>
      ∃ o'', Step o' h' o'' h'' ∧ ((v = .bool true ∧ I (i + 1) o'' h'') ∨ (v = .bool false ∧ K (.tuple #[]) h'')))
    (hk : ∀ o' h', I (keysOf l).length o' h' → K (.tuple #[]) h') : HC P tally_Tally_All_1.n #[.func (.yield lb) #[] #[], .pointer (some ⟨fb, 0, none⟩)] h K := by
  refine tally_Tally_All_1.hc ?_
  unfold tally_Tally_All_1
  simp only [someD_some]
  refine ⟨_, hf, bcase_of_false rfl ⟨_, hf, ?_⟩⟩
  simp only [someD_some, Addr.add_mk, Nat.zero_add]
  refine ⟨_, by rw [cell_of t.blk]; rfl, Clone_spec t.map fun h1 r1 hr1 m1 s1 => ⟨_, rfl, Keys_spec fun kb hkb => ⟨_, _, _, rfl, ?_⟩⟩⟩
  have nkr : kb ≠ r1 := fun e => by rw [e] at hkb; exact m1.ne hkb
  have s2 : Step [r1] h1 [r1] (h1.put kb (.cells #[.map (some r1)] T.map_uint64_uint32 (0, 0))) := Step.put (.inr hkb)
  have m2 : MapAt (h1.put kb (.cells #[.map (some r1)] T.map_uint64_uint32 (0, 0))) r1 .u64 (cv l) := m1.keep (put_ne (Ne.symm nkr))
  refine Sorted_spec put_self m2 (by simpa [cv] using hL) fun h3 a cap o ks g1 g2 g3 g4 => ⟨_, _, _, rfl, ?_⟩
  have eks : ks = keysOf l := keysOf_eq (by have : (cv l).map (·.1) = l.map (·.1) := by simp [cv]
                                            rw [this] at g2; exact g2) g3
  subst eks
  have m3 : MapAt h3 r1 .u64 (cv l) := m2.keep (g4.keep r1 m2.ne (by simp))
  have st : Step [] h (r1 :: o) h3 := (s1.trans s2).trans ((g4.frame [r1]).weak (by simp) (by intro k hk; simp at hk ⊢; rcases hk with h | h <;> simp [h]))
  have hd : ∀ k ∈ r1 :: o, k ∉ p := fun k hk hm => by
    rcases st.own k hk with hx | hx
    · simp at hx
    · exact hp k hm hx
  have hd1 : r1 ∉ o := fun hm => by
    rcases g4.own r1 hm with hx | hx
    · simp at hx
    · exact m2.ne hx
  have hlen : (keysOf l).length < 2147483648 := by rw [keysOf_len]; exact hL
  refine ⟨fun vs h2 => ∃ i o', vs = [.int .i64 (i : Nat)] ∧ SlAt h2 T.uint64 1 Any' a (keysOf l).length cap (u64s (keysOf l)) o ∧ MapAt h2 r1 .u64 (cv l) ∧ (∀ k ∈ r1 :: o, k ∉ o') ∧ I i o' h2 ∧ i ≤ (keysOf l).length,
    fun vs _ => match vs with | [.int _ i] => (keysOf l).length - i.toNat | _ => 0, ⟨0, p, rfl, g1, m3, hd, h0 _ (st.weak (fun _ hk => hk) (by simp)), by omega⟩, ?_⟩
  rintro h2 i ⟨j, o', he, hs2, hm2, hd2, hI, hj⟩
  cases he
  refine bcase_intro (fun hc => ?_) fun hc => ?_
  · have hc : j < (keysOf l).length := by simpa using hc
    obtain ⟨sb, off, cs, rfl, rfl, -, hcell, -⟩ := hs2.cell hc
    simp only [someD_some, Addr.add_mk]
    have hget : (keysOf l)[j]? = some (keysOf l)[j] := List.getElem?_eq_getElem hc
    refine ⟨by omega, by omega, _, by rw [Int.toNat_natCast, Nat.mul_one, hcell]; simp only [u64s, List.getElem?_map, hget]; rfl, ?_⟩
    refine lookup_wp mty hm2 ⟨_, mget_cv, ?_⟩
    refine (hy j _ o' h2 hget hI).mono ?_
    rintro v h3 ⟨o'', st, ⟨rfl, hI'⟩ | ⟨rfl, hK⟩⟩
    · have hw : IntKind.wrap .i64 ((j : Int) + 1) = ((j + 1 : Nat) : Int) := by rw [wrap_id (by omega) (by omega)]; omega
      refine ⟨_, rfl, ?_⟩
      simp only [Bool.not_true, bcase_false, hw]
      have hmem : ∀ k ∈ r1 :: [sb], h2 k ≠ none := by
        intro k hk
        rcases List.mem_cons.1 hk with rfl | hk
        · exact hm2.ne
        · exact hs2.mem k hk
      refine ⟨⟨j + 1, o'', rfl, hs2.keep fun k hk => st.keep k (hs2.mem k hk) (hd2 k (by simp at hk ⊢; simp [hk])), hm2.keep (st.keep r1 hm2.ne (hd2 r1 (by simp))), st.disj hmem hd2, hI', by omega⟩, ?_⟩
      show (keysOf l).length - (j + 1) < (keysOf l).length - j
      omega
    · exact ⟨_, rfl, hK⟩
  · obtain rfl : j = (keysOf l).length := by simp at hc; omega
    exact hk _ _ hI
end Go.Den.Stub
end

section
set_option linter.unusedVariables false
set_option maxRecDepth 20000
namespace Go.Den.Stub
open Go Go.Den

def sumOf (L : List (Int × Nat)) : Nat := ((keysOf L).map (cget L)).sum
/-- The pairs that are told. -/
def rows (L : List (Int × Nat)) : List (Int × Nat) := (keysOf L).map fun k => (k, cget L k)

theorem sum_take_le {xs : List Nat} (hb : ∀ x ∈ xs, x < 4294967296) : ∀ i, ((xs.take i).sum) ≤ 4294967296 * (xs.take i).length := by
  intro i
  induction i generalizing xs with
  | zero => simp
  | succ i ih =>
    cases xs with
    | nil => simp
    | cons x xs =>
      simp only [List.take_succ_cons, List.sum_cons, List.length_cons]
      have h1 := ih (xs := xs) (fun y hy => hb y (by simp [hy]))
      have h2 := hb x (by simp)
      omega

variable {h : Hp} {b r most : Nat} {l : List (Int × Nat)} {K : Value → Hp → Prop}

theorem Sum_spec (t : TAt h b r most l) (hL : l.length < 2147483648) (hc : ∀ k, cget l k < 4294967296) (hk : ∀ h', Step [] h [] h' → K (.int .u64 (sumOf l : Int)) h') :
    HC P tally_Tally_Sum.n #[.pointer (some ⟨b, 0, none⟩)] h K := by
  refine tally_Tally_Sum.hc ?_
  unfold tally_Tally_Sum
  intro b0 hb0
  have hset : (h.put b0 (.cells #[.int .u64 0] T.uint64 (0, 0))).setCell ⟨b0, 0, none⟩ (.int .u64 0) = h.put b0 (.cells #[.int .u64 0] T.uint64 (0, 0)) := by
    rw [setCell_of put_self, put_put]; rfl
  rw [hset]
  refine ⟨⟨_, by rw [cell_of put_self]; rfl⟩, frozen_of put_self, tally_Tally_All.hc fun fb hfb => ⟨_, _, _, rfl, trueD_intro call_All_1 fun lb R hl hbody => ?_⟩⟩
  obtain ⟨nlf, hl1⟩ := put_none hl
  obtain ⟨nl0, hl0⟩ := put_none hl1
  obtain ⟨nf0, hf0⟩ := put_none hfb
  obtain ⟨xs, hxs⟩ : ∃ xs, xs = (keysOf l).map (cget l) := ⟨_, rfl⟩
  have hxb : ∀ x ∈ xs, x < 4294967296 := by
    intro x hx; rw [hxs] at hx; obtain ⟨k, -, rfl⟩ := List.mem_map.1 hx; exact hc k
  have hxl : xs.length < 2147483648 := by rw [hxs, List.length_map, keysOf_len]; exact hL
  have hsum : ∀ i, (xs.take i).sum < 9223372036854775808 := by
    intro i
    have h1 := sum_take_le hxb i
    have h2 : (xs.take i).length ≤ xs.length := by rw [List.length_take]; exact Nat.min_le_right _ _
    omega
  generalize hH : (((h.put b0 (.cells #[.int .u64 0] T.uint64 (0, 0))).put fb (.cells #[.pointer (some ⟨b, 0, none⟩)] T.ptr_tally_Tally (0, 0))).put lb R.ready) = H
  have Hl : H lb = some R.ready := by subst hH; simp [put_get]
  have Hfb : H fb = some (.cells #[.pointer (some ⟨b, 0, none⟩)] T.ptr_tally_Tally (0, 0)) := by subst hH; simp [put_get, Ne.symm nlf]
  have Hb0 : H b0 = some (.cells #[.int .u64 0] T.uint64 (0, 0)) := by subst hH; simp [put_get, Ne.symm nl0, Ne.symm nf0]
  have stH : Step [] h [b0, lb] H := by
    subst hH
    exact (((Step.new (o := []) hb0).trans (Step.put (.inr hfb))).trans (Step.new hl)).weak (by simp) (by intro k hk; simp at hk ⊢; rcases hk with rfl | rfl <;> simp)
  show HC P tally_Tally_All_1.n #[.func (.yield lb) #[] #[], .pointer (some ⟨fb, 0, none⟩)] H _
  have fin : ∀ h', h' lb = some R.ready → h' b0 = some (.cells #[.int .u64 ((xs.take xs.length).sum : Nat)] T.uint64 (0, 0)) → Step [] h [b0, lb] h' →
      ((h' lb = some R.ready ∧ ∃ n2, (h'.put lb R.over).cell? ⟨b0, 0, none⟩ = some (.int .u64 n2) ∧ K (.int .u64 n2) (h'.put lb R.over)) ∨ False) := by
    intro h' g1 g2 g3
    have e1 := put_block (b := lb) (o := R.over) g2 (Ne.symm nl0)
    refine .inl ⟨g1, _, by rw [cell_of e1]; rfl, ?_⟩
    rw [List.take_length, hxs]
    exact hk _ ((g3.trans (Step.put (b := lb) (.inl (by simp)))).weak (by simp) (by simp))
  refine All_1_spec (p := [b0, lb]) (I := fun i o' h' => o' = [b0, lb] ∧ h' lb = some R.ready ∧ h' b0 = some (.cells #[.int .u64 ((xs.take i).sum : Nat)] T.uint64 (0, 0)) ∧ Step [] h [b0, lb] h') (t.keep stH) hL (by rw [cell_of Hfb]; rfl) (by
      intro k hk; simp at hk; rcases hk with rfl | rfl
      · simp [Hb0]
      · simp [Hl]) (fun h' st => ⟨rfl, by rw [st.keep _ (by simp [Hl]) (by simp), Hl], by rw [st.keep _ (by simp [Hb0]) (by simp), Hb0]; simp, stH.trans ⟨fun k hk _ => st.keep k hk (by simp), fun k hk => .inl hk, st.dom⟩⟩) ?_ ?_
  · rintro i k o3 h1 hx ⟨rfl, g1, g2, g3⟩
    have e0 := put_block (b := lb) (o := R.busy) g2 (Ne.symm nl0)
    have hxi : xs[i]? = some (cget l k) := by rw [hxs, List.getElem?_map, hx]; rfl
    have es : (xs.take (i + 1)).sum = (xs.take i).sum + cget l k := by rw [List.take_add_one, hxi]; simp
    have hs1 := hsum (i + 1)
    have w1 : IntKind.wrap .u64 ((cget l k : Nat) : Int) = (cget l k : Int) := u64_wrap (by have := hc k; omega)
    have w2 : IntKind.wrap .u64 (((xs.take i).sum : Nat) + (cget l k : Int)) = ((xs.take (i + 1)).sum : Nat) := by
      rw [show (((xs.take i).sum : Nat) : Int) + (cget l k : Int) = (((xs.take (i + 1)).sum : Nat) : Int) by rw [es]; simp]
      exact u64_wrap (by omega)
    refine hbody _ _ _ _ g1 ⟨g1, _, by rw [cell_of e0]; rfl, ⟨_, by rw [cell_of e0]; rfl⟩, frozen_of e0, ?_⟩
    rw [w1, w2]
    simp only [setCell_of e0]
    have c1 : ((#[.int .u64 ((xs.take i).sum : Nat)] : Array Value).setIfInBounds 0 (.int .u64 ((xs.take (i + 1)).sum : Nat))) = #[.int .u64 ((xs.take (i + 1)).sum : Nat)] := rfl
    rw [c1]
    refine ⟨by rw [put_ne nl0]; exact put_self, [b0, lb], ?_, .inl ⟨trivial, rfl, put_self, put_block put_self (Ne.symm nl0), ?_⟩⟩
    · exact (Step.put (.inl (by simp))).trans ((Step.put (.inl (by simp))).trans (Step.put (.inl (by simp))))
    · exact g3.trans ((Step.put (.inl (by simp))).trans ((Step.put (.inl (by simp))).trans (Step.put (.inl (by simp)))))
  · rintro o3 h3 ⟨rfl, g1, g2, g3⟩
    rw [show (keysOf l).length = xs.length by rw [hxs, List.length_map]] at g2
    exact fin h3 g1 g2 g3

end Go.Den.Stub
end

section
set_option linter.unusedVariables false
set_option maxRecDepth 20000
namespace Go.Den.Stub
open Go Go.Den

def cput : List (Int × Nat) → Int → Nat → List (Int × Nat)
  | [], k, c => if c = 0 then [] else [(k, c)]
  | (a, n) :: l, k, c => if k = a then (if c = 0 then l else (k, c) :: l) else (a, n) :: cput l k c

theorem cset_eq {l : List (Int × Nat)} {k : Int} {c : Nat} : cset l k c = cput l k c := by
  induction l with
  | nil => rfl
  | cons x l ih =>
    obtain ⟨a, n⟩ := x
    unfold cset cput
    show (match mf ((a, .int .u32 (n : Int)) :: cv l) k 0 with | some (i, _) => _ | none => _) = _
    unfold mf
    by_cases hk : k = a
    · rw [if_pos hk, if_pos hk]; rfl
    · rw [if_neg hk, if_neg hk, mf_shift, ← ih]
      unfold cset
      cases mf (cv l) k 0 with
      | none => simp only [Option.map_none]; split <;> rfl
      | some p => simp only [Option.map_some]; split <;> rfl

def Keyed (l : List (Int × Nat)) : Prop := (l.map (·.1)).Nodup

theorem cget_none {l : List (Int × Nat)} {k : Int} (h : k ∉ l.map (·.1)) : cget l k = 0 := by
  induction l with
  | nil => rfl
  | cons x l ih =>
    obtain ⟨a, n⟩ := x
    simp only [List.map_cons, List.mem_cons, not_or] at h
    rw [cget, if_neg h.1]; exact ih h.2

theorem cput_keys {l : List (Int × Nat)} {k j : Int} {c : Nat} (h : j ∈ (cput l k c).map (·.1)) : j = k ∨ j ∈ l.map (·.1) := by
  induction l with
  | nil =>
    unfold cput at h; split at h <;> simp at h; exact .inl h
  | cons x l ih =>
    obtain ⟨a, n⟩ := x
    unfold cput at h
    split at h
    · split at h
      · exact .inr (by simp at h ⊢; exact .inr h)
      · simp at h ⊢; rcases h with h | h
        · exact .inl h
        · exact .inr (.inr h)
    · simp only [List.map_cons, List.mem_cons] at h ⊢
      rcases h with h | h
      · exact .inr (.inl h)
      · rcases ih h with h | h
        · exact .inl h
        · exact .inr (.inr h)

theorem cput_keyed {l : List (Int × Nat)} {k : Int} {c : Nat} (h : Keyed l) : Keyed (cput l k c) := by
  unfold Keyed at *
  induction l with
  | nil => unfold cput; split <;> simp
  | cons x l ih =>
    obtain ⟨a, n⟩ := x
    simp only [List.map_cons, List.nodup_cons] at h
    unfold cput
    split
    · rename_i e; subst e
      split
      · exact h.2
      · simp only [List.map_cons, List.nodup_cons]; exact h
    · rename_i e
      simp only [List.map_cons, List.nodup_cons]
      refine ⟨fun hm => ?_, ih h.2⟩
      rcases cput_keys hm with h1 | h1
      · exact e h1.symm
      · exact h.1 h1

theorem cget_cput {l : List (Int × Nat)} {k j : Int} {c : Nat} (h : Keyed l) : cget (cput l k c) j = if j = k then c else cget l j := by
  unfold Keyed at h
  induction l with
  | nil =>
    unfold cput
    by_cases hc : c = 0
    · rw [if_pos hc]; subst hc; split <;> rfl
    · rw [if_neg hc]; rfl
  | cons x l ih =>
    obtain ⟨a, n⟩ := x
    simp only [List.map_cons, List.nodup_cons] at h
    unfold cput
    by_cases hk : k = a
    · subst hk
      rw [if_pos rfl]
      by_cases hc : c = 0
      · rw [if_pos hc]; subst hc
        by_cases hj : j = k
        · subst hj; rw [if_pos rfl]; exact cget_none h.1
        · rw [if_neg hj, cget, if_neg hj]
      · rw [if_neg hc, cget, cget]
        by_cases hj : j = k
        · rw [if_pos hj, if_pos hj]
        · rw [if_neg hj, if_neg hj, if_neg hj]
    · rw [if_neg hk, cget, cget, ih h.2]
      by_cases hj : j = a
      · subst hj; rw [if_pos rfl, if_pos rfl, if_neg (fun e => hk e.symm)]
      · rw [if_neg hj, if_neg hj]

theorem cput_len {l : List (Int × Nat)} {k : Int} {c : Nat} : (cput l k c).length ≤ l.length + 1 := by
  induction l with
  | nil => unfold cput; split <;> simp
  | cons x l ih =>
    obtain ⟨a, n⟩ := x
    unfold cput
    split
    · split
      · simp only [List.length_cons]; omega
      · simp
    · simp only [List.length_cons]; omega

/-- No key stands for nothing. -/
def Pos (l : List (Int × Nat)) : Prop := ∀ p ∈ l, 0 < p.2
theorem cput_pos {l : List (Int × Nat)} {k : Int} {c : Nat} (h : Pos l) : Pos (cput l k c) := by
  induction l with
  | nil =>
    unfold cput
    by_cases hc : c = 0
    · rw [if_pos hc]; exact h
    · rw [if_neg hc]; intro p hp; simp at hp; subst hp; show 0 < c; omega
  | cons x l ih =>
    obtain ⟨a, n⟩ := x
    have h1 : Pos l := fun p hp => h p (by simp [hp])
    unfold cput
    split
    · split
      · exact h1
      · intro p hp
        rcases List.mem_cons.1 hp with rfl | hp
        · show 0 < c; omega
        · exact h1 p hp
    · intro p hp
      rcases List.mem_cons.1 hp with rfl | hp
      · exact h _ (by simp)
      · exact ih h1 p hp
end Go.Den.Stub
end

section
set_option linter.unusedVariables false
set_option maxRecDepth 100000
namespace Go.Den.Stub
open Go Go.Den

noncomputable section

def stub_New.k0 (h0 : Hp) (K : Value → Hp → Prop) (n0 : Int) (a0 : Option Addr) : Prop :=
 (∀ b0 : Nat, ((h0 b0) = none → K (.tuple #[.pointer (some ⟨b0, 0, none⟩), .int .i64 0]) (h0.put b0 (.cells #[.int .u64 n0, .pointer a0] T.stub_Stubs (0, 0)))))
def stub_New.k1 (n2 : Int) (K : Value → Hp → Prop) (h0 : Hp) (n0 : Int) (a0 : Option Addr) : Prop :=
 bcase ((n2 != 0))
 (K (.tuple #[.pointer none, .int .i64 n2]) h0)
 ((stub_New.k0 h0 K n0 a0))
def stub_New (n0 : Int) (n1 : Int) (K : Value → Hp → Prop) (h : Hp) : Prop :=
 HC P arena_New_stub_stub.n #[.int .i64 n1, .int .u32 1] h (fun v0 h0 => (∃ a0 : Option Addr, (∃ n2 : Int, (v0 = (.tuple #[.pointer a0, .int .i64 n2])) ∧ (stub_New.k1 n2 K h0 n0 a0))))
theorem stub_New.hc {n0 : Int} {n1 : Int} {K : Value → Hp → Prop} {h : Hp} (hh : stub_New n0 n1 K h) : HC P stub_New.n #[.int .u64 n0, .int .i64 n1] h K :=
  HC_of_den (fn := Go.Proofs.Try.f9) (args := [.int .u64 n0, .int .i64 n1]) Go.Proofs.Try.func9 rfl (Nat.le_of_ble_eq_true (by kernel_rfl)) (den_cast hh (by kernel_rfl))

def stub_Stubs_Export.k0 (h : Hp) (b0 : Nat) (cs0 : Array Value) (b1 : Nat) (b2 : Nat) (n1 : Int) (n2 : Int) (n0 : Int) (cs1 : Array Value) (K : Value → Hp → Prop) : Prop :=
 True ∧ ((36 : Nat) = 36) ∧ (∀ v2 : Value, (v2 ∈ ([.int .u32 0, .int .u32 0, .int .u64 0, .int .u64 0, .int .u8 0, .int .u8 0, .int .u8 0, .int .u8 0, .int .u8 0, .int .u8 0, .int .u8 0, .int .u8 0, .int .u8 0, .int .u8 0, .int .u8 0, .int .u8 0, .int .u8 0, .int .u8 0, .int .u8 0, .int .u8 0, .int .u8 0, .int .u8 0, .int .u8 0, .int .u8 0, .int .u8 0, .int .u8 0, .int .u8 0, .int .u8 0, .int .u8 0, .int .u8 0, .int .u8 0, .int .u8 0, .int .u8 0, .int .u8 0, .int .u8 0, .int .u8 0] : List Value) → (Den.cellish v2) = Bool.true)) ∧ (Free ((((h.put b0 (.cells cs0 T.api_Guid (0, 0))).put b1 (.cells zObjref T.api_Objref (0, 0))).put b2 (.cells zObjref T.api_Objref (0, 0))).setCells ⟨b2, 0, none⟩ (Array.mk ((.int .u32 n1) :: ((.int .u32 n2) :: ((.int .u64 0) :: ((.int .u64 n0) :: ((.int .u8 0) :: ((.int .u8 0) :: ((.int .u8 0) :: ((.int .u8 0) :: ((.int .u8 0) :: ((.int .u8 0) :: ((.int .u8 0) :: ((.int .u8 0) :: ((.int .u8 0) :: ((.int .u8 0) :: ((.int .u8 0) :: ((.int .u8 0) :: ((.int .u8 0) :: ((.int .u8 0) :: ((.int .u8 0) :: ((.int .u8 0) :: (catA cs1 []))))))))))))))))))))))) ⟨b1, 0, none⟩ 36) ∧ (∃ cs2 : Array Value, (CellsAt (((((h.put b0 (.cells cs0 T.api_Guid (0, 0))).put b1 (.cells zObjref T.api_Objref (0, 0))).put b2 (.cells zObjref T.api_Objref (0, 0))).setCells ⟨b2, 0, none⟩ (Array.mk ((.int .u32 n1) :: ((.int .u32 n2) :: ((.int .u64 0) :: ((.int .u64 n0) :: ((.int .u8 0) :: ((.int .u8 0) :: ((.int .u8 0) :: ((.int .u8 0) :: ((.int .u8 0) :: ((.int .u8 0) :: ((.int .u8 0) :: ((.int .u8 0) :: ((.int .u8 0) :: ((.int .u8 0) :: ((.int .u8 0) :: ((.int .u8 0) :: ((.int .u8 0) :: ((.int .u8 0) :: ((.int .u8 0) :: ((.int .u8 0) :: (catA cs1 []))))))))))))))))))))))).setCells ⟨b1, 0, none⟩ zObjref) ⟨b1, 0, none⟩ 36 cs2) ∧ K (.tuple #[.agg cs2, .int .i64 3]) (((((h.put b0 (.cells cs0 T.api_Guid (0, 0))).put b1 (.cells zObjref T.api_Objref (0, 0))).put b2 (.cells zObjref T.api_Objref (0, 0))).setCells ⟨b2, 0, none⟩ (Array.mk ((.int .u32 n1) :: ((.int .u32 n2) :: ((.int .u64 0) :: ((.int .u64 n0) :: ((.int .u8 0) :: ((.int .u8 0) :: ((.int .u8 0) :: ((.int .u8 0) :: ((.int .u8 0) :: ((.int .u8 0) :: ((.int .u8 0) :: ((.int .u8 0) :: ((.int .u8 0) :: ((.int .u8 0) :: ((.int .u8 0) :: ((.int .u8 0) :: ((.int .u8 0) :: ((.int .u8 0) :: ((.int .u8 0) :: ((.int .u8 0) :: (catA cs1 []))))))))))))))))))))))).setCells ⟨b1, 0, none⟩ zObjref))
def stub_Stubs_Export.k1 (h0 : Hp) (b1 : Nat) (K : Value → Hp → Prop) : Prop :=
 True ∧ ((36 : Nat) = 36) ∧ (∀ v4 : Value, (v4 ∈ ([.int .u32 0, .int .u32 0, .int .u64 0, .int .u64 0, .int .u8 0, .int .u8 0, .int .u8 0, .int .u8 0, .int .u8 0, .int .u8 0, .int .u8 0, .int .u8 0, .int .u8 0, .int .u8 0, .int .u8 0, .int .u8 0, .int .u8 0, .int .u8 0, .int .u8 0, .int .u8 0, .int .u8 0, .int .u8 0, .int .u8 0, .int .u8 0, .int .u8 0, .int .u8 0, .int .u8 0, .int .u8 0, .int .u8 0, .int .u8 0, .int .u8 0, .int .u8 0, .int .u8 0, .int .u8 0, .int .u8 0, .int .u8 0] : List Value) → (Den.cellish v4) = Bool.true)) ∧ (Free h0 ⟨b1, 0, none⟩ 36) ∧ (∃ cs4 : Array Value, (CellsAt (h0.setCells ⟨b1, 0, none⟩ zObjref) ⟨b1, 0, none⟩ 36 cs4) ∧ K (.tuple #[.agg cs4, .int .i64 1]) (h0.setCells ⟨b1, 0, none⟩ zObjref))
def stub_Stubs_Export.k2 (h3 : Hp) (b1 : Nat) (K : Value → Hp → Prop) (n7 : Int) : Prop :=
 True ∧ ((36 : Nat) = 36) ∧ (∀ v9 : Value, (v9 ∈ ([.int .u32 0, .int .u32 0, .int .u64 0, .int .u64 0, .int .u8 0, .int .u8 0, .int .u8 0, .int .u8 0, .int .u8 0, .int .u8 0, .int .u8 0, .int .u8 0, .int .u8 0, .int .u8 0, .int .u8 0, .int .u8 0, .int .u8 0, .int .u8 0, .int .u8 0, .int .u8 0, .int .u8 0, .int .u8 0, .int .u8 0, .int .u8 0, .int .u8 0, .int .u8 0, .int .u8 0, .int .u8 0, .int .u8 0, .int .u8 0, .int .u8 0, .int .u8 0, .int .u8 0, .int .u8 0, .int .u8 0, .int .u8 0] : List Value) → (Den.cellish v9) = Bool.true)) ∧ (Free h3 ⟨b1, 0, none⟩ 36) ∧ (∃ cs8 : Array Value, (CellsAt (h3.setCells ⟨b1, 0, none⟩ zObjref) ⟨b1, 0, none⟩ 36 cs8) ∧ K (.tuple #[.agg cs8, .int .i64 n7]) (h3.setCells ⟨b1, 0, none⟩ zObjref))
def stub_Stubs_Export.k3 (h5 : Hp) (p2 : Addr) (n10 : Int) (b2 : Nat) (cs9 : Array Value) (b1 : Nat) (K : Value → Hp → Prop) : Prop :=
 (∃ n11 : Int, ((h5.cell? (p2.add 0)) = (some (.int .u64 n11))) ∧ (.int .u64 n11 : Value) = (.int .u64 n10)) ∧ (∃ u0 : Value, (h5.cell? ((⟨b2, 0, none⟩ : Addr).add 2)) = (some u0)) ∧ ((h5.frozen? ((⟨b2, 0, none⟩ : Addr).add 2)) = Bool.false) ∧ (cs9.size = 16) ∧ (∀ v12 : Value, (v12 ∈ (Array.toList cs9 : List Value) → (Den.cellish v12) = Bool.true)) ∧ (Free (h5.setCell ((⟨b2, 0, none⟩ : Addr).add 2) (.int .u64 n10)) ((⟨b2, 0, none⟩ : Addr).add 4) 16) ∧ (∃ cs10 : Array Value, (CellsAt ((h5.setCell ((⟨b2, 0, none⟩ : Addr).add 2) (.int .u64 n10)).setCells ((⟨b2, 0, none⟩ : Addr).add 4) cs9) ⟨b2, 0, none⟩ 36 cs10) ∧ (cs10.size = 36) ∧ (∀ v13 : Value, (v13 ∈ (Array.toList cs10 : List Value) → (Den.cellish v13) = Bool.true)) ∧ (Free ((h5.setCell ((⟨b2, 0, none⟩ : Addr).add 2) (.int .u64 n10)).setCells ((⟨b2, 0, none⟩ : Addr).add 4) cs9) ⟨b1, 0, none⟩ 36) ∧ (∃ cs11 : Array Value, (CellsAt (((h5.setCell ((⟨b2, 0, none⟩ : Addr).add 2) (.int .u64 n10)).setCells ((⟨b2, 0, none⟩ : Addr).add 4) cs9).setCells ⟨b1, 0, none⟩ cs10) ⟨b1, 0, none⟩ 36 cs11) ∧ K (.tuple #[.agg cs11, .int .i64 0]) (((h5.setCell ((⟨b2, 0, none⟩ : Addr).add 2) (.int .u64 n10)).setCells ((⟨b2, 0, none⟩ : Addr).add 4) cs9).setCells ⟨b1, 0, none⟩ cs10)))
def stub_Stubs_Export.k4 (p0 : Option Addr) (h4 : Hp) (n6 : Int) (b2 : Nat) (b1 : Nat) (K : Value → Hp → Prop) : Prop :=
 someD p0 (fun p2 => (∃ n10 : Int, ((h4.cell? (p2.add 0)) = (some (.int .u64 n10))) ∧ HC P guid_Of.n #[.int .u64 n6] h4 (fun v11 h5 => (∃ cs9 : Array Value, (v11 = (.agg cs9)) ∧ (stub_Stubs_Export.k3 h5 p2 n10 b2 cs9 b1 K)))))
def stub_Stubs_Export.k5 (n9 : Int) (h4 : Hp) (b1 : Nat) (K : Value → Hp → Prop) (p0 : Option Addr) (n6 : Int) (b2 : Nat) : Prop :=
 bcase ((n9 != 0))
 ((stub_Stubs_Export.k2 h4 b1 K n9))
 ((stub_Stubs_Export.k4 p0 h4 n6 b2 b1 K))
def stub_Stubs_Export.k6 (h3 : Hp) (b3 : Nat) (n3 : Int) (n2 : Int) (b1 : Nat) (K : Value → Hp → Prop) (p0 : Option Addr) (n6 : Int) (b2 : Nat) : Prop :=
 (∃ a3 : Option Addr, ((h3.cell? ((⟨b3, 0, none⟩ : Addr).add 17)) = (some (.pointer a3))) ∧ HC P tally_Tally_Up.n #[.pointer a3, .int .u64 n3, .int .u32 n2] h3 (fun v10 h4 => (∃ n8 : Int, (∃ n9 : Int, (v10 = (.tuple #[.int .u32 n8, .int .i64 n9])) ∧ (stub_Stubs_Export.k5 n9 h4 b1 K p0 n6 b2)))))
def stub_Stubs_Export.k7 (b3 : Nat) (n1 : Int) (h3 : Hp) (b1 : Nat) (K : Value → Hp → Prop) (p0 : Option Addr) (n6 : Int) (b2 : Nat) : Prop :=
 HC P stub_stub_table.n #[.pointer (some ⟨b3, 0, none⟩), .int .u32 n1] h3 (fun v14 h6 => (∃ n12 : Int, (v14 = (.int .i64 n12)) ∧ (stub_Stubs_Export.k5 n12 h6 b1 K p0 n6 b2)))
def stub_Stubs_Export.k8 (n1 : Int) (h3 : Hp) (b3 : Nat) (n3 : Int) (n2 : Int) (b1 : Nat) (K : Value → Hp → Prop) (p0 : Option Addr) (n6 : Int) (b2 : Nat) : Prop :=
 bcase ((n1 == 0))
 ((stub_Stubs_Export.k6 h3 b3 n3 n2 b1 K p0 n6 b2))
 ((stub_Stubs_Export.k7 b3 n1 h3 b1 K p0 n6 b2))
def stub_Stubs_Export.k9 (n7 : Int) (h3 : Hp) (b1 : Nat) (K : Value → Hp → Prop) (n1 : Int) (b3 : Nat) (n3 : Int) (n2 : Int) (p0 : Option Addr) (n6 : Int) (b2 : Nat) : Prop :=
 bcase ((n7 != 0))
 ((stub_Stubs_Export.k2 h3 b1 K n7))
 ((stub_Stubs_Export.k8 n1 h3 b3 n3 n2 b1 K p0 n6 b2))
def stub_Stubs_Export.k10 (h2 : Hp) (b0 : Nat) (cs6 : Array Value) (p0 : Option Addr) (n0 : Int) (a1 : Option Addr) (b1 : Nat) (K : Value → Hp → Prop) (n1 : Int) (n3 : Int) (n2 : Int) (b2 : Nat) : Prop :=
 (∃ cs7 : Array Value, (CellsAt h2 ⟨b0, 0, none⟩ 16 cs7) ∧ (.agg cs7 : Value) = (.agg cs6)) ∧ ((cs6.size = 16) ∧ (∀ v7 : Value, (v7 ∈ (Array.toList cs6 : List Value) → (Den.cellish v7) = Bool.true)) ∧ True) ∧ (∀ b3 : Nat, ((h2 b3) = none → someD p0 (fun p1 => (∃ a2 : Option Addr, (((h2.put b3 (.cells (Array.mk ((.int .u64 n0) :: (catA cs6 [.pointer a1, .int .u32 0, .int .u32 0, .int .u32 0]))) T.stub_stub (0, 0))).cell? (p1.add 1)) = (some (.pointer a2))) ∧ HC P arena_Arena_stub_stub_Put.n #[.pointer a2, .pointer (some ⟨b3, 0, none⟩)] (h2.put b3 (.cells (Array.mk ((.int .u64 n0) :: (catA cs6 [.pointer a1, .int .u32 0, .int .u32 0, .int .u32 0]))) T.stub_stub (0, 0))) (fun v8 h3 => (∃ n6 : Int, (∃ n7 : Int, (v8 = (.tuple #[.int .u64 n6, .int .i64 n7])) ∧ (stub_Stubs_Export.k9 n7 h3 b1 K n1 b3 n3 n2 p0 n6 b2))))))))
def stub_Stubs_Export.k11 (h1 : Hp) (b0 : Nat) (p0 : Option Addr) (n0 : Int) (b1 : Nat) (K : Value → Hp → Prop) (n1 : Int) (n3 : Int) (n2 : Int) (b2 : Nat) : Prop :=
 (∃ cs6 : Array Value, (CellsAt h1 ⟨b0, 0, none⟩ 16 cs6) ∧ HC P tally_New.n #[.int .u32 4294967295] h1 (fun v6 h2 => (∃ a1 : Option Addr, (v6 = (.pointer a1)) ∧ (stub_Stubs_Export.k10 h2 b0 cs6 p0 n0 a1 b1 K n1 n3 n2 b2))))
def stub_Stubs_Export.k12 (a0 : Option Addr) (h1 : Hp) (n3 : Int) (n2 : Int) (b1 : Nat) (K : Value → Hp → Prop) (p0 : Option Addr) (n5 : Int) (b2 : Nat) : Prop :=
 someD a0 (fun p3 => (∃ a4 : Option Addr, ((h1.cell? (p3.add 17)) = (some (.pointer a4))) ∧ HC P tally_Tally_Up.n #[.pointer a4, .int .u64 n3, .int .u32 n2] h1 (fun v15 h7 => (∃ n13 : Int, (∃ n14 : Int, (v15 = (.tuple #[.int .u32 n13, .int .i64 n14])) ∧ (stub_Stubs_Export.k5 n14 h7 b1 K p0 n5 b2))))))
def stub_Stubs_Export.k13 (a0 : Option Addr) (n1 : Int) (h1 : Hp) (b1 : Nat) (K : Value → Hp → Prop) (p0 : Option Addr) (n5 : Int) (b2 : Nat) : Prop :=
 HC P stub_stub_table.n #[.pointer a0, .int .u32 n1] h1 (fun v16 h8 => (∃ n15 : Int, (v16 = (.int .i64 n15)) ∧ (stub_Stubs_Export.k5 n15 h8 b1 K p0 n5 b2)))
def stub_Stubs_Export.k14 (n1 : Int) (a0 : Option Addr) (h1 : Hp) (n3 : Int) (n2 : Int) (b1 : Nat) (K : Value → Hp → Prop) (p0 : Option Addr) (n5 : Int) (b2 : Nat) : Prop :=
 bcase ((n1 == 0))
 ((stub_Stubs_Export.k12 a0 h1 n3 n2 b1 K p0 n5 b2))
 ((stub_Stubs_Export.k13 a0 n1 h1 b1 K p0 n5 b2))
def stub_Stubs_Export.k15 (a0 : Option Addr) (h1 : Hp) (b0 : Nat) (p0 : Option Addr) (n0 : Int) (b1 : Nat) (K : Value → Hp → Prop) (n1 : Int) (n3 : Int) (n2 : Int) (b2 : Nat) (n5 : Int) : Prop :=
 bcase (a0.isNone)
 ((stub_Stubs_Export.k11 h1 b0 p0 n0 b1 K n1 n3 n2 b2))
 ((stub_Stubs_Export.k14 n1 a0 h1 n3 n2 b1 K p0 n5 b2))
def stub_Stubs_Export.k16 (h0 : Hp) (b0 : Nat) (p0 : Option Addr) (n0 : Int) (b1 : Nat) (K : Value → Hp → Prop) (n1 : Int) (n3 : Int) (n2 : Int) (b2 : Nat) : Prop :=
 (∃ cs5 : Array Value, (CellsAt h0 ⟨b0, 0, none⟩ 16 cs5) ∧ HC P stub_Stubs_of.n #[.pointer p0, .int .u64 n0, .agg cs5] h0 (fun v5 h1 => (∃ a0 : Option Addr, (∃ n5 : Int, (v5 = (.tuple #[.pointer a0, .int .u64 n5])) ∧ (stub_Stubs_Export.k15 a0 h1 b0 p0 n0 b1 K n1 n3 n2 b2 n5)))))
def stub_Stubs_Export.k17 (n4 : Int) (h0 : Hp) (b1 : Nat) (K : Value → Hp → Prop) (b0 : Nat) (p0 : Option Addr) (n0 : Int) (n1 : Int) (n3 : Int) (n2 : Int) (b2 : Nat) : Prop :=
 bcase ((n4 != 0))
 ((stub_Stubs_Export.k1 h0 b1 K))
 ((stub_Stubs_Export.k16 h0 b0 p0 n0 b1 K n1 n3 n2 b2))
def stub_Stubs_Export.k18 (h : Hp) (b0 : Nat) (cs0 : Array Value) (b1 : Nat) (b2 : Nat) (n1 : Int) (n2 : Int) (n0 : Int) (cs1 : Array Value) (K : Value → Hp → Prop) (p0 : Option Addr) (n3 : Int) : Prop :=
 (∃ cs3 : Array Value, (CellsAt ((((h.put b0 (.cells cs0 T.api_Guid (0, 0))).put b1 (.cells zObjref T.api_Objref (0, 0))).put b2 (.cells zObjref T.api_Objref (0, 0))).setCells ⟨b2, 0, none⟩ (Array.mk ((.int .u32 n1) :: ((.int .u32 n2) :: ((.int .u64 0) :: ((.int .u64 n0) :: ((.int .u8 0) :: ((.int .u8 0) :: ((.int .u8 0) :: ((.int .u8 0) :: ((.int .u8 0) :: ((.int .u8 0) :: ((.int .u8 0) :: ((.int .u8 0) :: ((.int .u8 0) :: ((.int .u8 0) :: ((.int .u8 0) :: ((.int .u8 0) :: ((.int .u8 0) :: ((.int .u8 0) :: ((.int .u8 0) :: ((.int .u8 0) :: (catA cs1 []))))))))))))))))))))))) ⟨b2, 0, none⟩ 36 cs3) ∧ HC P objref_Check.n #[.agg cs3] ((((h.put b0 (.cells cs0 T.api_Guid (0, 0))).put b1 (.cells zObjref T.api_Objref (0, 0))).put b2 (.cells zObjref T.api_Objref (0, 0))).setCells ⟨b2, 0, none⟩ (Array.mk ((.int .u32 n1) :: ((.int .u32 n2) :: ((.int .u64 0) :: ((.int .u64 n0) :: ((.int .u8 0) :: ((.int .u8 0) :: ((.int .u8 0) :: ((.int .u8 0) :: ((.int .u8 0) :: ((.int .u8 0) :: ((.int .u8 0) :: ((.int .u8 0) :: ((.int .u8 0) :: ((.int .u8 0) :: ((.int .u8 0) :: ((.int .u8 0) :: ((.int .u8 0) :: ((.int .u8 0) :: ((.int .u8 0) :: ((.int .u8 0) :: (catA cs1 []))))))))))))))))))))))) (fun v3 h0 => (∃ n4 : Int, (v3 = (.int .i64 n4)) ∧ (stub_Stubs_Export.k17 n4 h0 b1 K b0 p0 n0 n1 n3 n2 b2))))
def stub_Stubs_Export (p0 : Option Addr) (n0 : Int) (cs0 : Array Value) (n1 : Int) (n2 : Int) (n3 : Int) (K : Value → Hp → Prop) (h : Hp) : Prop :=
 (∀ b0 : Nat, ((h b0) = none → (∀ b1 : Nat, (((h.put b0 (.cells cs0 T.api_Guid (0, 0))) b1) = none → (∃ cs1 : Array Value, (CellsAt ((h.put b0 (.cells cs0 T.api_Guid (0, 0))).put b1 (.cells zObjref T.api_Objref (0, 0))) ⟨b0, 0, none⟩ 16 cs1) ∧ ((cs1.size = 16) ∧ (∀ v0 : Value, (v0 ∈ (Array.toList cs1 : List Value) → (Den.cellish v0) = Bool.true)) ∧ True) ∧ (∀ b2 : Nat, ((((h.put b0 (.cells cs0 T.api_Guid (0, 0))).put b1 (.cells zObjref T.api_Objref (0, 0))) b2) = none → (((Array.mk ((.int .u32 n1) :: ((.int .u32 n2) :: ((.int .u64 0) :: ((.int .u64 n0) :: ((.int .u8 0) :: ((.int .u8 0) :: ((.int .u8 0) :: ((.int .u8 0) :: ((.int .u8 0) :: ((.int .u8 0) :: ((.int .u8 0) :: ((.int .u8 0) :: ((.int .u8 0) :: ((.int .u8 0) :: ((.int .u8 0) :: ((.int .u8 0) :: ((.int .u8 0) :: ((.int .u8 0) :: ((.int .u8 0) :: ((.int .u8 0) :: (catA cs1 [])))))))))))))))))))))).size) = 36) ∧ (∀ v1 : Value, (v1 ∈ (((.int .u32 n1) :: ((.int .u32 n2) :: ((.int .u64 0) :: ((.int .u64 n0) :: ((.int .u8 0) :: ((.int .u8 0) :: ((.int .u8 0) :: ((.int .u8 0) :: ((.int .u8 0) :: ((.int .u8 0) :: ((.int .u8 0) :: ((.int .u8 0) :: ((.int .u8 0) :: ((.int .u8 0) :: ((.int .u8 0) :: ((.int .u8 0) :: ((.int .u8 0) :: ((.int .u8 0) :: ((.int .u8 0) :: ((.int .u8 0) :: (catA cs1 []))))))))))))))))))))) : List Value) → (Den.cellish v1) = Bool.true)) ∧ (Free (((h.put b0 (.cells cs0 T.api_Guid (0, 0))).put b1 (.cells zObjref T.api_Objref (0, 0))).put b2 (.cells zObjref T.api_Objref (0, 0))) ⟨b2, 0, none⟩ 36) ∧ bcase (p0.isNone)
 ((stub_Stubs_Export.k0 h b0 cs0 b1 b2 n1 n2 n0 cs1 K))
 ((stub_Stubs_Export.k18 h b0 cs0 b1 b2 n1 n2 n0 cs1 K p0 n3)))))))))
theorem stub_Stubs_Export.hc {p0 : Option Addr} {n0 : Int} {cs0 : Array Value} {n1 : Int} {n2 : Int} {n3 : Int} {K : Value → Hp → Prop} {h : Hp} (hh : stub_Stubs_Export p0 n0 cs0 n1 n2 n3 K h) : HC P stub_Stubs_Export.n #[.pointer p0, .int .u64 n0, .agg cs0, .int .u32 n1, .int .u32 n2, .int .u64 n3] h K :=
  HC_of_den (fn := Go.Proofs.Try.f10) (args := [.pointer p0, .int .u64 n0, .agg cs0, .int .u32 n1, .int .u32 n2, .int .u64 n3]) Go.Proofs.Try.func10 rfl (Nat.le_of_ble_eq_true (by kernel_rfl)) (den_cast hh (by kernel_rfl))

def stub_Stubs_Release.k0 (p0 : Option Addr) (a0 : Option Addr) (n2 : Int) (h1 : Hp) (K : Value → Hp → Prop) (n5 : Int) : Prop :=
 HC P stub_Stubs_sweep.n #[.pointer p0, .pointer a0, .int .u64 n2] h1 (fun v2 h2 => K (.int .i64 n5) h2)
def stub_Stubs_Release.k1 (a0 : Option Addr) (h0 : Hp) (n0 : Int) (n1 : Int) (p0 : Option Addr) (n2 : Int) (K : Value → Hp → Prop) : Prop :=
 someD a0 (fun p1 => (∃ a1 : Option Addr, ((h0.cell? (p1.add 17)) = (some (.pointer a1))) ∧ HC P tally_Tally_Down.n #[.pointer a1, .int .u64 n0, .int .u32 n1] h0 (fun v1 h1 => (∃ n4 : Int, (∃ n5 : Int, (v1 = (.tuple #[.int .u32 n4, .int .i64 n5])) ∧ (stub_Stubs_Release.k0 p0 a0 n2 h1 K n5))))))
def stub_Stubs_Release.k2 (n3 : Int) (K : Value → Hp → Prop) (h0 : Hp) (a0 : Option Addr) (n0 : Int) (n1 : Int) (p0 : Option Addr) (n2 : Int) : Prop :=
 bcase ((n3 != 0))
 (K (.int .i64 n3) h0)
 ((stub_Stubs_Release.k1 a0 h0 n0 n1 p0 n2 K))
def stub_Stubs_Release (p0 : Option Addr) (cs0 : Array Value) (n0 : Int) (n1 : Int) (K : Value → Hp → Prop) (h : Hp) : Prop :=
 (∀ b0 : Nat, ((h b0) = none → (∃ cs1 : Array Value, (CellsAt (h.put b0 (.cells cs0 T.api_Guid (0, 0))) ⟨b0, 0, none⟩ 16 cs1) ∧ HC P stub_Stubs_find.n #[.pointer p0, .agg cs1] (h.put b0 (.cells cs0 T.api_Guid (0, 0))) (fun v0 h0 => (∃ a0 : Option Addr, (∃ n2 : Int, (∃ n3 : Int, (v0 = (.tuple #[.pointer a0, .int .u64 n2, .int .i64 n3])) ∧ (stub_Stubs_Release.k2 n3 K h0 a0 n0 n1 p0 n2))))))))
theorem stub_Stubs_Release.hc {p0 : Option Addr} {cs0 : Array Value} {n0 : Int} {n1 : Int} {K : Value → Hp → Prop} {h : Hp} (hh : stub_Stubs_Release p0 cs0 n0 n1 K h) : HC P stub_Stubs_Release.n #[.pointer p0, .agg cs0, .int .u64 n0, .int .u32 n1] h K :=
  HC_of_den (fn := Go.Proofs.Try.f11) (args := [.pointer p0, .agg cs0, .int .u64 n0, .int .u32 n1]) Go.Proofs.Try.func11 rfl (Nat.le_of_ble_eq_true (by kernel_rfl)) (den_cast hh (by kernel_rfl))

def stub_Stubs_Find.k0 (h0 : Hp) (b1 : Nat) (K : Value → Hp → Prop) (n1 : Int) : Prop :=
 True ∧ ((16 : Nat) = 16) ∧ (∀ v1 : Value, (v1 ∈ ([.int .u8 0, .int .u8 0, .int .u8 0, .int .u8 0, .int .u8 0, .int .u8 0, .int .u8 0, .int .u8 0, .int .u8 0, .int .u8 0, .int .u8 0, .int .u8 0, .int .u8 0, .int .u8 0, .int .u8 0, .int .u8 0] : List Value) → (Den.cellish v1) = Bool.true)) ∧ (Free h0 ⟨b1, 0, none⟩ 16) ∧ (∃ cs2 : Array Value, (CellsAt (h0.setCells ⟨b1, 0, none⟩ zGuid) ⟨b1, 0, none⟩ 16 cs2) ∧ K (.tuple #[.int .u64 0, .agg cs2, .int .i64 n1]) (h0.setCells ⟨b1, 0, none⟩ zGuid))
def stub_Stubs_Find.k1 (a0 : Option Addr) (h0 : Hp) (b1 : Nat) (K : Value → Hp → Prop) : Prop :=
 someD a0 (fun p1 => (∃ n2 : Int, ((h0.cell? (p1.add 0)) = (some (.int .u64 n2))) ∧ someD a0 (fun p2 => (∃ cs3 : Array Value, (CellsAt h0 (p2.add 1) 16 cs3) ∧ (cs3.size = 16) ∧ (∀ v2 : Value, (v2 ∈ (Array.toList cs3 : List Value) → (Den.cellish v2) = Bool.true)) ∧ (Free h0 ⟨b1, 0, none⟩ 16) ∧ (∃ cs4 : Array Value, (CellsAt (h0.setCells ⟨b1, 0, none⟩ cs3) ⟨b1, 0, none⟩ 16 cs4) ∧ K (.tuple #[.int .u64 n2, .agg cs4, .int .i64 0]) (h0.setCells ⟨b1, 0, none⟩ cs3))))))
def stub_Stubs_Find.k2 (n1 : Int) (h0 : Hp) (b1 : Nat) (K : Value → Hp → Prop) (a0 : Option Addr) : Prop :=
 bcase ((n1 != 0))
 ((stub_Stubs_Find.k0 h0 b1 K n1))
 ((stub_Stubs_Find.k1 a0 h0 b1 K))
def stub_Stubs_Find (p0 : Option Addr) (cs0 : Array Value) (K : Value → Hp → Prop) (h : Hp) : Prop :=
 (∀ b0 : Nat, ((h b0) = none → (∀ b1 : Nat, (((h.put b0 (.cells cs0 T.api_Guid (0, 0))) b1) = none → (∃ cs1 : Array Value, (CellsAt ((h.put b0 (.cells cs0 T.api_Guid (0, 0))).put b1 (.cells zGuid T.api_Guid (0, 0))) ⟨b0, 0, none⟩ 16 cs1) ∧ HC P stub_Stubs_find.n #[.pointer p0, .agg cs1] ((h.put b0 (.cells cs0 T.api_Guid (0, 0))).put b1 (.cells zGuid T.api_Guid (0, 0))) (fun v0 h0 => (∃ a0 : Option Addr, (∃ n0 : Int, (∃ n1 : Int, (v0 = (.tuple #[.pointer a0, .int .u64 n0, .int .i64 n1])) ∧ (stub_Stubs_Find.k2 n1 h0 b1 K a0))))))))))
theorem stub_Stubs_Find.hc {p0 : Option Addr} {cs0 : Array Value} {K : Value → Hp → Prop} {h : Hp} (hh : stub_Stubs_Find p0 cs0 K h) : HC P stub_Stubs_Find.n #[.pointer p0, .agg cs0] h K :=
  HC_of_den (fn := Go.Proofs.Try.f12) (args := [.pointer p0, .agg cs0]) Go.Proofs.Try.func12 rfl (Nat.le_of_ble_eq_true (by kernel_rfl)) (den_cast hh (by kernel_rfl))

def stub_Stubs_Add.k0 (a0 : Option Addr) (h0 : Hp) (n0 : Int) (n1 : Int) (K : Value → Hp → Prop) : Prop :=
 someD a0 (fun p1 => (∃ a1 : Option Addr, ((h0.cell? (p1.add 17)) = (some (.pointer a1))) ∧ HC P tally_Tally_Up.n #[.pointer a1, .int .u64 n0, .int .u32 n1] h0 (fun v1 h1 => (∃ n4 : Int, (∃ n5 : Int, (v1 = (.tuple #[.int .u32 n4, .int .i64 n5])) ∧ K (.int .i64 n5) h1)))))
def stub_Stubs_Add.k1 (n3 : Int) (a0 : Option Addr) (h0 : Hp) (n0 : Int) (n1 : Int) (K : Value → Hp → Prop) : Prop :=
 bcase ((n3 == 0))
 ((stub_Stubs_Add.k0 a0 h0 n0 n1 K))
 (K (.int .i64 n3) h0)
def stub_Stubs_Add (p0 : Option Addr) (cs0 : Array Value) (n0 : Int) (n1 : Int) (K : Value → Hp → Prop) (h : Hp) : Prop :=
 (∀ b0 : Nat, ((h b0) = none → (∃ cs1 : Array Value, (CellsAt (h.put b0 (.cells cs0 T.api_Guid (0, 0))) ⟨b0, 0, none⟩ 16 cs1) ∧ HC P stub_Stubs_find.n #[.pointer p0, .agg cs1] (h.put b0 (.cells cs0 T.api_Guid (0, 0))) (fun v0 h0 => (∃ a0 : Option Addr, (∃ n2 : Int, (∃ n3 : Int, (v0 = (.tuple #[.pointer a0, .int .u64 n2, .int .i64 n3])) ∧ (stub_Stubs_Add.k1 n3 a0 h0 n0 n1 K))))))))
theorem stub_Stubs_Add.hc {p0 : Option Addr} {cs0 : Array Value} {n0 : Int} {n1 : Int} {K : Value → Hp → Prop} {h : Hp} (hh : stub_Stubs_Add p0 cs0 n0 n1 K h) : HC P stub_Stubs_Add.n #[.pointer p0, .agg cs0, .int .u64 n0, .int .u32 n1] h K :=
  HC_of_den (fn := Go.Proofs.Try.f13) (args := [.pointer p0, .agg cs0, .int .u64 n0, .int .u32 n1]) Go.Proofs.Try.func13 rfl (Nat.le_of_ble_eq_true (by kernel_rfl)) (den_cast hh (by kernel_rfl))

def stub_Stubs_Untable.k0 (a0 : Option Addr) (n0 : Int) (h0 : Hp) (p0 : Option Addr) (n1 : Int) (K : Value → Hp → Prop) : Prop :=
 someD a0 (fun p2 => ((0 : Int) ≤ n0) ∧ (n0 < (3 : Int)) ∧ (∃ n4 : Int, ((h0.cell? ((p2.add 18).add (n0.toNat * 1))) = (some (.int .u32 n4))) ∧ someD a0 (fun p3 => ((0 : Int) ≤ n0) ∧ (n0 < (3 : Int)) ∧ (∃ u0 : Value, (h0.cell? ((p3.add 18).add (n0.toNat * 1))) = (some u0)) ∧ ((h0.frozen? ((p3.add 18).add (n0.toNat * 1))) = Bool.false) ∧ HC P stub_Stubs_sweep.n #[.pointer p0, .pointer a0, .int .u64 n1] (h0.setCell ((p3.add 18).add (n0.toNat * 1)) (.int .u32 (IntKind.wrap .u32 (n4 - 1)))) (fun v1 h1 => K (.int .i64 0) h1))))
def stub_Stubs_Untable.k1 (a0 : Option Addr) (n0 : Int) (h0 : Hp) (K : Value → Hp → Prop) (p0 : Option Addr) (n1 : Int) : Prop :=
 someD a0 (fun p1 => ((0 : Int) ≤ n0) ∧ (n0 < (3 : Int)) ∧ (∃ n3 : Int, ((h0.cell? ((p1.add 18).add (n0.toNat * 1))) = (some (.int .u32 n3))) ∧ bcase ((n3 == 0))
 (K (.int .i64 4) h0)
 ((stub_Stubs_Untable.k0 a0 n0 h0 p0 n1 K))))
def stub_Stubs_Untable.k2 (n0 : Int) (K : Value → Hp → Prop) (h0 : Hp) (a0 : Option Addr) (p0 : Option Addr) (n1 : Int) : Prop :=
 bcase ((n0 != 2))
 (K (.int .i64 1) h0)
 ((stub_Stubs_Untable.k1 a0 n0 h0 K p0 n1))
def stub_Stubs_Untable.k3 (n0 : Int) (K : Value → Hp → Prop) (h0 : Hp) (a0 : Option Addr) (p0 : Option Addr) (n1 : Int) : Prop :=
 bcase ((n0 != 1))
 ((stub_Stubs_Untable.k2 n0 K h0 a0 p0 n1))
 ((stub_Stubs_Untable.k1 a0 n0 h0 K p0 n1))
def stub_Stubs_Untable.k4 (n2 : Int) (K : Value → Hp → Prop) (h0 : Hp) (n0 : Int) (a0 : Option Addr) (p0 : Option Addr) (n1 : Int) : Prop :=
 bcase ((n2 != 0))
 (K (.int .i64 n2) h0)
 ((stub_Stubs_Untable.k3 n0 K h0 a0 p0 n1))
def stub_Stubs_Untable (p0 : Option Addr) (cs0 : Array Value) (n0 : Int) (K : Value → Hp → Prop) (h : Hp) : Prop :=
 (∀ b0 : Nat, ((h b0) = none → (∃ cs1 : Array Value, (CellsAt (h.put b0 (.cells cs0 T.api_Guid (0, 0))) ⟨b0, 0, none⟩ 16 cs1) ∧ HC P stub_Stubs_find.n #[.pointer p0, .agg cs1] (h.put b0 (.cells cs0 T.api_Guid (0, 0))) (fun v0 h0 => (∃ a0 : Option Addr, (∃ n1 : Int, (∃ n2 : Int, (v0 = (.tuple #[.pointer a0, .int .u64 n1, .int .i64 n2])) ∧ (stub_Stubs_Untable.k4 n2 K h0 n0 a0 p0 n1))))))))
theorem stub_Stubs_Untable.hc {p0 : Option Addr} {cs0 : Array Value} {n0 : Int} {K : Value → Hp → Prop} {h : Hp} (hh : stub_Stubs_Untable p0 cs0 n0 K h) : HC P stub_Stubs_Untable.n #[.pointer p0, .agg cs0, .int .u32 n0] h K :=
  HC_of_den (fn := Go.Proofs.Try.f14) (args := [.pointer p0, .agg cs0, .int .u32 n0]) Go.Proofs.Try.func14 rfl (Nat.le_of_ble_eq_true (by kernel_rfl)) (den_cast hh (by kernel_rfl))

def stub_Stubs_Count.k0 (a0 : Option Addr) (h0 : Hp) (n0 : Int) (K : Value → Hp → Prop) : Prop :=
 someD a0 (fun p1 => (∃ a1 : Option Addr, ((h0.cell? (p1.add 17)) = (some (.pointer a1))) ∧ HC P tally_Tally_Of.n #[.pointer a1, .int .u64 n0] h0 (fun v1 h1 => (∃ n3 : Int, (v1 = (.int .u32 n3)) ∧ K (.int .u32 n3) h1))))
def stub_Stubs_Count.k1 (n2 : Int) (K : Value → Hp → Prop) (h0 : Hp) (a0 : Option Addr) (n0 : Int) : Prop :=
 bcase ((n2 != 0))
 (K (.int .u32 0) h0)
 ((stub_Stubs_Count.k0 a0 h0 n0 K))
def stub_Stubs_Count (p0 : Option Addr) (cs0 : Array Value) (n0 : Int) (K : Value → Hp → Prop) (h : Hp) : Prop :=
 (∀ b0 : Nat, ((h b0) = none → (∃ cs1 : Array Value, (CellsAt (h.put b0 (.cells cs0 T.api_Guid (0, 0))) ⟨b0, 0, none⟩ 16 cs1) ∧ HC P stub_Stubs_find.n #[.pointer p0, .agg cs1] (h.put b0 (.cells cs0 T.api_Guid (0, 0))) (fun v0 h0 => (∃ a0 : Option Addr, (∃ n1 : Int, (∃ n2 : Int, (v0 = (.tuple #[.pointer a0, .int .u64 n1, .int .i64 n2])) ∧ (stub_Stubs_Count.k1 n2 K h0 a0 n0))))))))
theorem stub_Stubs_Count.hc {p0 : Option Addr} {cs0 : Array Value} {n0 : Int} {K : Value → Hp → Prop} {h : Hp} (hh : stub_Stubs_Count p0 cs0 n0 K h) : HC P stub_Stubs_Count.n #[.pointer p0, .agg cs0, .int .u64 n0] h K :=
  HC_of_den (fn := Go.Proofs.Try.f16) (args := [.pointer p0, .agg cs0, .int .u64 n0]) Go.Proofs.Try.func16 rfl (Nat.le_of_ble_eq_true (by kernel_rfl)) (den_cast hh (by kernel_rfl))

def stub_Stubs_Move.k0 (a0 : Option Addr) (h2 : Hp) (n0 : Int) (n2 : Int) (K : Value → Hp → Prop) (n8 : Int) : Prop :=
 someD a0 (fun p3 => (∃ a3 : Option Addr, ((h2.cell? (p3.add 17)) = (some (.pointer a3))) ∧ HC P tally_Tally_Up.n #[.pointer a3, .int .u64 n0, .int .u32 n2] h2 (fun v3 h3 => (∃ n9 : Int, (∃ n10 : Int, (v3 = (.tuple #[.int .u32 n9, .int .i64 n10])) ∧ K (.int .i64 n8) h3)))))
def stub_Stubs_Move.k1 (n8 : Int) (a0 : Option Addr) (h2 : Hp) (n0 : Int) (n2 : Int) (K : Value → Hp → Prop) : Prop :=
 bcase ((n8 != 0))
 ((stub_Stubs_Move.k0 a0 h2 n0 n2 K n8))
 (K (.int .i64 0) h2)
def stub_Stubs_Move.k2 (a0 : Option Addr) (h1 : Hp) (n1 : Int) (n2 : Int) (n0 : Int) (K : Value → Hp → Prop) : Prop :=
 someD a0 (fun p2 => (∃ a2 : Option Addr, ((h1.cell? (p2.add 17)) = (some (.pointer a2))) ∧ HC P tally_Tally_Up.n #[.pointer a2, .int .u64 n1, .int .u32 n2] h1 (fun v2 h2 => (∃ n7 : Int, (∃ n8 : Int, (v2 = (.tuple #[.int .u32 n7, .int .i64 n8])) ∧ (stub_Stubs_Move.k1 n8 a0 h2 n0 n2 K))))))
def stub_Stubs_Move.k3 (n6 : Int) (K : Value → Hp → Prop) (h1 : Hp) (a0 : Option Addr) (n1 : Int) (n2 : Int) (n0 : Int) : Prop :=
 bcase ((n6 != 0))
 (K (.int .i64 n6) h1)
 ((stub_Stubs_Move.k2 a0 h1 n1 n2 n0 K))
def stub_Stubs_Move.k4 (a0 : Option Addr) (h0 : Hp) (n0 : Int) (n2 : Int) (K : Value → Hp → Prop) (n1 : Int) : Prop :=
 someD a0 (fun p1 => (∃ a1 : Option Addr, ((h0.cell? (p1.add 17)) = (some (.pointer a1))) ∧ HC P tally_Tally_Down.n #[.pointer a1, .int .u64 n0, .int .u32 n2] h0 (fun v1 h1 => (∃ n5 : Int, (∃ n6 : Int, (v1 = (.tuple #[.int .u32 n5, .int .i64 n6])) ∧ (stub_Stubs_Move.k3 n6 K h1 a0 n1 n2 n0))))))
def stub_Stubs_Move.k5 (n4 : Int) (K : Value → Hp → Prop) (h0 : Hp) (a0 : Option Addr) (n0 : Int) (n2 : Int) (n1 : Int) : Prop :=
 bcase ((n4 != 0))
 (K (.int .i64 n4) h0)
 ((stub_Stubs_Move.k4 a0 h0 n0 n2 K n1))
def stub_Stubs_Move (p0 : Option Addr) (cs0 : Array Value) (n0 : Int) (n1 : Int) (n2 : Int) (K : Value → Hp → Prop) (h : Hp) : Prop :=
 (∀ b0 : Nat, ((h b0) = none → (∃ cs1 : Array Value, (CellsAt (h.put b0 (.cells cs0 T.api_Guid (0, 0))) ⟨b0, 0, none⟩ 16 cs1) ∧ HC P stub_Stubs_find.n #[.pointer p0, .agg cs1] (h.put b0 (.cells cs0 T.api_Guid (0, 0))) (fun v0 h0 => (∃ a0 : Option Addr, (∃ n3 : Int, (∃ n4 : Int, (v0 = (.tuple #[.pointer a0, .int .u64 n3, .int .i64 n4])) ∧ (stub_Stubs_Move.k5 n4 K h0 a0 n0 n2 n1))))))))
theorem stub_Stubs_Move.hc {p0 : Option Addr} {cs0 : Array Value} {n0 : Int} {n1 : Int} {n2 : Int} {K : Value → Hp → Prop} {h : Hp} (hh : stub_Stubs_Move p0 cs0 n0 n1 n2 K h) : HC P stub_Stubs_Move.n #[.pointer p0, .agg cs0, .int .u64 n0, .int .u64 n1, .int .u32 n2] h K :=
  HC_of_den (fn := Go.Proofs.Try.f17) (args := [.pointer p0, .agg cs0, .int .u64 n0, .int .u64 n1, .int .u32 n2]) Go.Proofs.Try.func17 rfl (Nat.le_of_ble_eq_true (by kernel_rfl)) (den_cast hh (by kernel_rfl))

def stub_Stubs_Held.k0 (h : Hp) (b0 : Nat) (n0 : Int) (b1 : Nat) (K : Value → Hp → Prop) : Prop :=
 (∃ u0 : Value, (((h.put b0 (.cells #[.int .u64 n0] T.uint64 (0, 0))).put b1 (.cells #[.bool Bool.false] T.bool (0, 0))).cell? ⟨b1, 0, none⟩) = (some u0)) ∧ ((((h.put b0 (.cells #[.int .u64 n0] T.uint64 (0, 0))).put b1 (.cells #[.bool Bool.false] T.bool (0, 0))).frozen? ⟨b1, 0, none⟩) = Bool.false) ∧ (∃ b2 : Bool, (((((h.put b0 (.cells #[.int .u64 n0] T.uint64 (0, 0))).put b1 (.cells #[.bool Bool.false] T.bool (0, 0))).setCell ⟨b1, 0, none⟩ (.bool Bool.false)).cell? ⟨b1, 0, none⟩) = (some (.bool b2))) ∧ K (.bool b2) (((h.put b0 (.cells #[.int .u64 n0] T.uint64 (0, 0))).put b1 (.cells #[.bool Bool.false] T.bool (0, 0))).setCell ⟨b1, 0, none⟩ (.bool Bool.false)))
def stub_Stubs_Held.k1 (h2 : Hp) (b1 : Nat) (l0 : Nat) (R0 : Rec) (K0 : Value → Hp → Prop) : Prop :=
 (∃ u1 : Value, (h2.cell? ⟨b1, 0, none⟩) = (some u1)) ∧ ((h2.frozen? ⟨b1, 0, none⟩) = Bool.false) ∧ (((h2.setCell ⟨b1, 0, none⟩ (.bool Bool.true)) l0) = (some R0.busy)) ∧ K0 (.bool Bool.false) ((h2.setCell ⟨b1, 0, none⟩ (.bool Bool.true)).put l0 (R0.done .ret))
def stub_Stubs_Held.k2 (a1 : Option Addr) (h2 : Hp) (b1 : Nat) (l0 : Nat) (R0 : Rec) (K0 : Value → Hp → Prop) : Prop :=
 someD a1 (fun p4 => ((0 : Int) ≤ 1) ∧ ((1 : Int) < (3 : Int)) ∧ (∃ n4 : Int, ((h2.cell? ((p4.add 18).add ((1 : Int).toNat * 1))) = (some (.int .u32 n4))) ∧ bcase (decide ((0 : Int) < n4))
 ((stub_Stubs_Held.k1 h2 b1 l0 R0 K0))
 (((h2 l0) = (some R0.busy)) ∧ K0 (.bool Bool.true) (h2.put l0 R0.ready))))
def stub_Stubs_Held.k3 (n3 : Int) (h2 : Hp) (b1 : Nat) (l0 : Nat) (R0 : Rec) (K0 : Value → Hp → Prop) (a1 : Option Addr) : Prop :=
 bcase (decide ((0 : Int) < n3))
 ((stub_Stubs_Held.k1 h2 b1 l0 R0 K0))
 ((stub_Stubs_Held.k2 a1 h2 b1 l0 R0 K0))
def stub_Stubs_Held.k4 (a1 : Option Addr) (h1 : Hp) (l0 : Nat) (R0 : Rec) (b1 : Nat) (K0 : Value → Hp → Prop) : Prop :=
 someD a1 (fun p3 => (∃ a2 : Option Addr, (((h1.put l0 R0.busy).cell? (p3.add 17)) = (some (.pointer a2))) ∧ HC P tally_Tally_Sum.n #[.pointer a2] (h1.put l0 R0.busy) (fun v2 h2 => (∃ n3 : Int, (v2 = (.int .u64 n3)) ∧ (stub_Stubs_Held.k3 n3 h2 b1 l0 R0 K0 a1)))))
def stub_Stubs_Held.k5 (h3 : Hp) (l0 : Nat) (R0 : Rec) (b1 : Nat) (K : Value → Hp → Prop) : Prop :=
 ((((h3 l0) = (some R0.ready)) ∧ (∃ u2 : Value, ((h3.put l0 R0.over).cell? ⟨b1, 0, none⟩) = (some u2)) ∧ (((h3.put l0 R0.over).frozen? ⟨b1, 0, none⟩) = Bool.false) ∧ (∃ b3 : Bool, ((((h3.put l0 R0.over).setCell ⟨b1, 0, none⟩ (.bool Bool.false)).cell? ⟨b1, 0, none⟩) = (some (.bool b3))) ∧ K (.bool b3) ((h3.put l0 R0.over).setCell ⟨b1, 0, none⟩ (.bool Bool.false)))) ∨ ((((h3 l0) = (some (R0.done .ret))) ∧ (∃ b4 : Bool, (((h3.put l0 (R0.overBy .ret)).cell? ⟨b1, 0, none⟩) = (some (.bool b4))) ∧ K (.bool b4) (h3.put l0 (R0.overBy .ret)))) ∨ False))
def stub_Stubs_Held.k6 (g0 : Nat) (h0 : Hp) (b0 : Nat) (b1 : Nat) (first0 : Array Value) (cap0 : Array Value) (K : Value → Hp → Prop) : Prop :=
 trueD (callable P g0) ((∀ l0 : Nat, (∀ R0 : Rec, ((h0 l0) = none → ((∀ v1 : Value, (∀ a1 : Option Addr, (∀ h1 : Hp, (∀ K0 : Value → Hp → Prop, ((h1 l0) = (some R0.ready) → (((h1 l0) = (some R0.ready)) ∧ someD a1 (fun p2 => (∃ n1 : Int, (((h1.put l0 R0.busy).cell? (p2.add 0)) = (some (.int .u64 n1))) ∧ (∃ n2 : Int, (((h1.put l0 R0.busy).cell? ⟨b0, 0, none⟩) = (some (.int .u64 n2))) ∧ bcase ((n1 == n2))
 ((stub_Stubs_Held.k4 a1 h1 l0 R0 b1 K0))
 ((((h1.put l0 R0.busy) l0) = (some R0.busy)) ∧ K0 (.bool Bool.true) ((h1.put l0 R0.busy).put l0 R0.ready))))) → HY P l0 #[v1, .pointer a1] h1 (K0))))))) → HC P g0 (Array.mk (Array.toList first0 ++ ((.func (.yield l0) #[] #[]) :: (Array.toList cap0)))) (h0.put l0 R0.ready) (fun x0 h3 => (stub_Stubs_Held.k5 h3 l0 R0 b1 K)))))))
def stub_Stubs_Held.k7 (p0 : Option Addr) (h : Hp) (b0 : Nat) (n0 : Int) (b1 : Nat) (K : Value → Hp → Prop) : Prop :=
 someD p0 (fun p1 => (∃ a0 : Option Addr, ((((h.put b0 (.cells #[.int .u64 n0] T.uint64 (0, 0))).put b1 (.cells #[.bool Bool.false] T.bool (0, 0))).cell? (p1.add 1)) = (some (.pointer a0))) ∧ HC P arena_Arena_stub_stub_All.n #[.pointer a0] ((h.put b0 (.cells #[.int .u64 n0] T.uint64 (0, 0))).put b1 (.cells #[.bool Bool.false] T.bool (0, 0))) (fun v0 h0 => (∃ g0 : Nat, (∃ first0 : Array Value, (∃ cap0 : Array Value, (v0 = (.func (.func g0) first0 cap0)) ∧ (stub_Stubs_Held.k6 g0 h0 b0 b1 first0 cap0 K)))))))
def stub_Stubs_Held (p0 : Option Addr) (n0 : Int) (K : Value → Hp → Prop) (h : Hp) : Prop :=
 (∀ b0 : Nat, ((h b0) = none → (∀ b1 : Nat, (((h.put b0 (.cells #[.int .u64 n0] T.uint64 (0, 0))) b1) = none → bcase (p0.isNone)
 ((stub_Stubs_Held.k0 h b0 n0 b1 K))
 ((stub_Stubs_Held.k7 p0 h b0 n0 b1 K))))))
theorem stub_Stubs_Held.hc {p0 : Option Addr} {n0 : Int} {K : Value → Hp → Prop} {h : Hp} (hh : stub_Stubs_Held p0 n0 K h) : HC P stub_Stubs_Held.n #[.pointer p0, .int .u64 n0] h K :=
  HC_of_den (fn := Go.Proofs.Try.f18) (args := [.pointer p0, .int .u64 n0]) Go.Proofs.Try.func18 rfl (Nat.le_of_ble_eq_true (by kernel_rfl)) (den_cast hh (by kernel_rfl))

def stub_Stubs_Forget.k0 (K : Value → Hp → Prop) (h : Hp) (b0 : Nat) (p0 : Option Addr) (b1 : Nat) (n0 : Int) : Prop :=
 K (.slice none 0 0) ((h.put b0 (.cells #[.pointer p0] T.ptr_stub_Stubs (0, 0))).put b1 (.cells #[.int .u64 n0] T.uint64 (0, 0)))
def stub_Stubs_Forget.k1 (h6 : Hp) (b2 : Nat) (a9 : Option Addr) (n10 : Nat) (c1 : Nat) (l0 : Nat) (R0 : Rec) (K0 : Value → Hp → Prop) : Prop :=
 (∃ u0 : Value, (h6.cell? ⟨b2, 0, none⟩) = (some u0)) ∧ ((h6.frozen? ⟨b2, 0, none⟩) = Bool.false) ∧ (((h6.setCell ⟨b2, 0, none⟩ (.slice a9 n10 c1)) l0) = (some R0.busy)) ∧ K0 (.bool Bool.true) ((h6.setCell ⟨b2, 0, none⟩ (.slice a9 n10 c1)).put l0 R0.ready)
def stub_Stubs_Forget.k2 (h5 : Hp) (b2 : Nat) (a3 : Option Addr) (l0 : Nat) (R0 : Rec) (K0 : Value → Hp → Prop) : Prop :=
 (∃ a8 : Option Addr, (∃ n8 : Nat, (∃ c0 : Nat, ((h5.cell? ⟨b2, 0, none⟩) = (some (.slice a8 n8 c0))) ∧ someD a3 (fun p5 => (∃ n9 : Int, ((h5.cell? (p5.add 0)) = (some (.int .u64 n9))) ∧ (∀ b4 : Nat, ((h5 b4) = none → wpSem P (Builtin.append_ #[T.sl_uint64, T.sl_uint64] T.sl_uint64 #[.slice a8 n8 c0, .slice (some ⟨b4, 0, none⟩) 1 1]) (fun v5 h6 => (∃ a9 : Option Addr, (∃ n10 : Nat, (∃ c1 : Nat, (v5 = (.slice a9 n10 c1)) ∧ (stub_Stubs_Forget.k1 h6 b2 a9 n10 c1 l0 R0 K0))))) (h5.put b4 (.cells #[.int .u64 n9] T.uint64 (0, 0))))))))))
def stub_Stubs_Forget.k3 (b3 : Bool) (h5 : Hp) (b2 : Nat) (a3 : Option Addr) (l0 : Nat) (R0 : Rec) (K0 : Value → Hp → Prop) : Prop :=
 bcase ((!b3))
 ((stub_Stubs_Forget.k2 h5 b2 a3 l0 R0 K0))
 (((h5 l0) = (some R0.busy)) ∧ K0 (.bool Bool.true) (h5.put l0 R0.ready))
def stub_Stubs_Forget.k4 (a3 : Option Addr) (h4 : Hp) (a7 : Option Addr) (b2 : Nat) (l0 : Nat) (R0 : Rec) (K0 : Value → Hp → Prop) : Prop :=
 someD a3 (fun p4 => (∃ n7 : Int, ((h4.cell? (p4.add 0)) = (some (.int .u64 n7))) ∧ HC P stub_Stubs_Held.n #[.pointer a7, .int .u64 n7] h4 (fun v4 h5 => (∃ b3 : Bool, (v4 = (.bool b3)) ∧ (stub_Stubs_Forget.k3 b3 h5 b2 a3 l0 R0 K0)))))
def stub_Stubs_Forget.k5 (a6 : Option Addr) (a3 : Option Addr) (n1 : Int) (h3 : Hp) (b0 : Nat) (b2 : Nat) (l0 : Nat) (R0 : Rec) (K0 : Value → Hp → Prop) : Prop :=
 HC P stub_Stubs_sweep.n #[.pointer a6, .pointer a3, .int .u64 n1] h3 (fun v3 h4 => (∃ a7 : Option Addr, ((h4.cell? ⟨b0, 0, none⟩) = (some (.pointer a7))) ∧ (stub_Stubs_Forget.k4 a3 h4 a7 b2 l0 R0 K0)))
def stub_Stubs_Forget.k6 (a3 : Option Addr) (h2 : Hp) (b1 : Nat) (n3 : Int) (b0 : Nat) (n1 : Int) (b2 : Nat) (l0 : Nat) (R0 : Rec) (K0 : Value → Hp → Prop) : Prop :=
 someD a3 (fun p3 => (∃ a5 : Option Addr, ((h2.cell? (p3.add 17)) = (some (.pointer a5))) ∧ (∃ n4 : Int, ((h2.cell? ⟨b1, 0, none⟩) = (some (.int .u64 n4))) ∧ HC P tally_Tally_Down.n #[.pointer a5, .int .u64 n4, .int .u32 n3] h2 (fun v2 h3 => (∃ n5 : Int, (∃ n6 : Int, (v2 = (.tuple #[.int .u32 n5, .int .i64 n6])) ∧ (∃ a6 : Option Addr, ((h3.cell? ⟨b0, 0, none⟩) = (some (.pointer a6))) ∧ (stub_Stubs_Forget.k5 a6 a3 n1 h3 b0 b2 l0 R0 K0))))))))
def stub_Stubs_Forget.k7 (n3 : Int) (h2 : Hp) (l0 : Nat) (R0 : Rec) (K0 : Value → Hp → Prop) (a3 : Option Addr) (b1 : Nat) (b0 : Nat) (n1 : Int) (b2 : Nat) : Prop :=
 bcase ((n3 == 0))
 (((h2 l0) = (some R0.busy)) ∧ K0 (.bool Bool.true) (h2.put l0 R0.ready))
 ((stub_Stubs_Forget.k6 a3 h2 b1 n3 b0 n1 b2 l0 R0 K0))
def stub_Stubs_Forget.k8 (a11 : Option Addr) (n12 : Nat) (c3 : Nat) (h8 : Hp) (K : Value → Hp → Prop) : Prop :=
 HC P slices_Compact_uint64_uint64.n #[.slice a11 n12 c3] h8 (fun v7 h9 => (∃ a12 : Option Addr, (∃ n13 : Nat, (∃ c4 : Nat, (v7 = (.slice a12 n13 c4)) ∧ K (.slice a12 n13 c4) h9))))
def stub_Stubs_Forget.k9 (h7 : Hp) (l0 : Nat) (R0 : Rec) (b2 : Nat) (K : Value → Hp → Prop) : Prop :=
 ((((h7 l0) = (some R0.ready)) ∧ (∃ a10 : Option Addr, (∃ n11 : Nat, (∃ c2 : Nat, (((h7.put l0 R0.over).cell? ⟨b2, 0, none⟩) = (some (.slice a10 n11 c2))) ∧ HC P slices_Sort_uint64_uint64.n #[.slice a10 n11 c2] (h7.put l0 R0.over) (fun v6 h8 => (∃ a11 : Option Addr, (∃ n12 : Nat, (∃ c3 : Nat, ((h8.cell? ⟨b2, 0, none⟩) = (some (.slice a11 n12 c3))) ∧ (stub_Stubs_Forget.k8 a11 n12 c3 h8 K))))))))) ∨ False)
def stub_Stubs_Forget.k10 (g0 : Nat) (h0 : Hp) (b1 : Nat) (b0 : Nat) (b2 : Nat) (first0 : Array Value) (cap0 : Array Value) (K : Value → Hp → Prop) : Prop :=
 trueD (callable P g0) ((∀ l0 : Nat, (∀ R0 : Rec, ((h0 l0) = none → ((∀ n1 : Int, (∀ a3 : Option Addr, (∀ h1 : Hp, (∀ K0 : Value → Hp → Prop, ((h1 l0) = (some R0.ready) → (((h1 l0) = (some R0.ready)) ∧ someD a3 (fun p2 => (∃ a4 : Option Addr, (((h1.put l0 R0.busy).cell? (p2.add 17)) = (some (.pointer a4))) ∧ (∃ n2 : Int, (((h1.put l0 R0.busy).cell? ⟨b1, 0, none⟩) = (some (.int .u64 n2))) ∧ HC P tally_Tally_Of.n #[.pointer a4, .int .u64 n2] (h1.put l0 R0.busy) (fun v1 h2 => (∃ n3 : Int, (v1 = (.int .u32 n3)) ∧ (stub_Stubs_Forget.k7 n3 h2 l0 R0 K0 a3 b1 b0 n1 b2)))))) → HY P l0 #[.int .u64 n1, .pointer a3] h1 (K0))))))) → HC P g0 (Array.mk (Array.toList first0 ++ ((.func (.yield l0) #[] #[]) :: (Array.toList cap0)))) (h0.put l0 R0.ready) (fun x0 h7 => (stub_Stubs_Forget.k9 h7 l0 R0 b2 K)))))))
def stub_Stubs_Forget.k11 (h : Hp) (b0 : Nat) (p0 : Option Addr) (b1 : Nat) (n0 : Int) (K : Value → Hp → Prop) : Prop :=
 (∀ b2 : Nat, ((((h.put b0 (.cells #[.pointer p0] T.ptr_stub_Stubs (0, 0))).put b1 (.cells #[.int .u64 n0] T.uint64 (0, 0))) b2) = none → (∃ a1 : Option Addr, (((((h.put b0 (.cells #[.pointer p0] T.ptr_stub_Stubs (0, 0))).put b1 (.cells #[.int .u64 n0] T.uint64 (0, 0))).put b2 (.cells #[.slice none 0 0] T.sl_uint64 (0, 0))).cell? ⟨b0, 0, none⟩) = (some (.pointer a1))) ∧ someD a1 (fun p1 => (∃ a2 : Option Addr, (((((h.put b0 (.cells #[.pointer p0] T.ptr_stub_Stubs (0, 0))).put b1 (.cells #[.int .u64 n0] T.uint64 (0, 0))).put b2 (.cells #[.slice none 0 0] T.sl_uint64 (0, 0))).cell? (p1.add 1)) = (some (.pointer a2))) ∧ HC P arena_Arena_stub_stub_All.n #[.pointer a2] (((h.put b0 (.cells #[.pointer p0] T.ptr_stub_Stubs (0, 0))).put b1 (.cells #[.int .u64 n0] T.uint64 (0, 0))).put b2 (.cells #[.slice none 0 0] T.sl_uint64 (0, 0))) (fun v0 h0 => (∃ g0 : Nat, (∃ first0 : Array Value, (∃ cap0 : Array Value, (v0 = (.func (.func g0) first0 cap0)) ∧ (stub_Stubs_Forget.k10 g0 h0 b1 b0 b2 first0 cap0 K))))))))))
def stub_Stubs_Forget (p0 : Option Addr) (n0 : Int) (K : Value → Hp → Prop) (h : Hp) : Prop :=
 (∀ b0 : Nat, ((h b0) = none → (∀ b1 : Nat, (((h.put b0 (.cells #[.pointer p0] T.ptr_stub_Stubs (0, 0))) b1) = none → (∃ a0 : Option Addr, ((((h.put b0 (.cells #[.pointer p0] T.ptr_stub_Stubs (0, 0))).put b1 (.cells #[.int .u64 n0] T.uint64 (0, 0))).cell? ⟨b0, 0, none⟩) = (some (.pointer a0))) ∧ bcase (a0.isNone)
 ((stub_Stubs_Forget.k0 K h b0 p0 b1 n0))
 ((stub_Stubs_Forget.k11 h b0 p0 b1 n0 K)))))))
theorem stub_Stubs_Forget.hc {p0 : Option Addr} {n0 : Int} {K : Value → Hp → Prop} {h : Hp} (hh : stub_Stubs_Forget p0 n0 K h) : HC P stub_Stubs_Forget.n #[.pointer p0, .int .u64 n0] h K :=
  HC_of_den (fn := Go.Proofs.Try.f28) (args := [.pointer p0, .int .u64 n0]) Go.Proofs.Try.func28 rfl (Nat.le_of_ble_eq_true (by kernel_rfl)) (den_cast hh (by kernel_rfl))

def stub_Stubs_Disconnect.k0 (h3 : Hp) (b2 : Nat) (n6 : Int) (l0 : Nat) (R0 : Rec) (K0 : Value → Hp → Prop) : Prop :=
 (∃ u1 : Value, (h3.cell? ⟨b2, 0, none⟩) = (some u1)) ∧ ((h3.frozen? ⟨b2, 0, none⟩) = Bool.false) ∧ (((h3.setCell ⟨b2, 0, none⟩ (.int .i64 (IntKind.wrap .i64 (n6 + 1)))) l0) = (some R0.busy)) ∧ K0 (.bool Bool.true) ((h3.setCell ⟨b2, 0, none⟩ (.int .i64 (IntKind.wrap .i64 (n6 + 1)))).put l0 R0.ready)
def stub_Stubs_Disconnect.k1 (a3 : Option Addr) (h2 : Hp) (n3 : Int) (b2 : Nat) (l0 : Nat) (R0 : Rec) (K0 : Value → Hp → Prop) : Prop :=
 someD a3 (fun p1 => (∃ a4 : Option Addr, ((h2.cell? (p1.add 1)) = (some (.pointer a4))) ∧ HC P arena_Arena_stub_stub_Drop.n #[.pointer a4, .int .u64 n3] h2 (fun v3 h3 => (∃ a5 : Option Addr, (∃ n5 : Int, (v3 = (.tuple #[.pointer a5, .int .i64 n5])) ∧ (∃ n6 : Int, ((h3.cell? ⟨b2, 0, none⟩) = (some (.int .i64 n6))) ∧ (stub_Stubs_Disconnect.k0 h3 b2 n6 l0 R0 K0)))))))
def stub_Stubs_Disconnect.k2 (h1 : Hp) (b3 : Nat) (cs0 : Array Value) (l0 : Nat) (R0 : Rec) (b0 : Nat) (b2 : Nat) (K0 : Value → Hp → Prop) : Prop :=
 (∃ a1 : Option Addr, (((((h1.put b3 (.cells zGuid T.api_Guid (0, 0))).setCells ⟨b3, 0, none⟩ cs0).put l0 R0.busy).cell? ⟨b0, 0, none⟩) = (some (.pointer a1))) ∧ (∃ cs1 : Array Value, (CellsAt (((h1.put b3 (.cells zGuid T.api_Guid (0, 0))).setCells ⟨b3, 0, none⟩ cs0).put l0 R0.busy) ⟨b3, 0, none⟩ 16 cs1) ∧ HC P stub_Stubs_find.n #[.pointer a1, .agg cs1] (((h1.put b3 (.cells zGuid T.api_Guid (0, 0))).setCells ⟨b3, 0, none⟩ cs0).put l0 R0.busy) (fun v2 h2 => (∃ a2 : Option Addr, (∃ n3 : Int, (∃ n4 : Int, (v2 = (.tuple #[.pointer a2, .int .u64 n3, .int .i64 n4])) ∧ (∃ a3 : Option Addr, ((h2.cell? ⟨b0, 0, none⟩) = (some (.pointer a3))) ∧ (stub_Stubs_Disconnect.k1 a3 h2 n3 b2 l0 R0 K0))))))))
def stub_Stubs_Disconnect.k3 (h1 : Hp) (b3 : Nat) (cs0 : Array Value) (l0 : Nat) (R0 : Rec) (K0 : Value → Hp → Prop) : Prop :=
 (((((h1.put b3 (.cells zGuid T.api_Guid (0, 0))).setCells ⟨b3, 0, none⟩ cs0).put l0 R0.busy) l0) = (some R0.busy)) ∧ K0 (.bool Bool.true) ((((h1.put b3 (.cells zGuid T.api_Guid (0, 0))).setCells ⟨b3, 0, none⟩ cs0).put l0 R0.busy).put l0 R0.ready)
def stub_Stubs_Disconnect.k4 (h4 : Hp) (l0 : Nat) (R0 : Rec) (b2 : Nat) (K : Value → Hp → Prop) : Prop :=
 ((((h4 l0) = (some R0.ready)) ∧ (∃ n7 : Int, (((h4.put l0 R0.over).cell? ⟨b2, 0, none⟩) = (some (.int .i64 n7))) ∧ K (.int .i64 n7) (h4.put l0 R0.over))) ∨ False)
def stub_Stubs_Disconnect.k5 (g0 : Nat) (h0 : Hp) (b1 : Nat) (b0 : Nat) (b2 : Nat) (first0 : Array Value) (cap0 : Array Value) (K : Value → Hp → Prop) : Prop :=
 trueD (callable P g0) ((∀ l0 : Nat, (∀ R0 : Rec, ((h0 l0) = none → ((∀ cs0 : Array Value, (∀ n1 : Int, (∀ h1 : Hp, (∀ K0 : Value → Hp → Prop, ((h1 l0) = (some R0.ready) → ((∀ b3 : Nat, ((h1 b3) = none → (cs0.size = 16) ∧ (∀ v1 : Value, (v1 ∈ (Array.toList cs0 : List Value) → (Den.cellish v1) = Bool.true)) ∧ (Free (h1.put b3 (.cells zGuid T.api_Guid (0, 0))) ⟨b3, 0, none⟩ 16) ∧ ((((h1.put b3 (.cells zGuid T.api_Guid (0, 0))).setCells ⟨b3, 0, none⟩ cs0) l0) = (some R0.ready)) ∧ (∃ n2 : Int, (((((h1.put b3 (.cells zGuid T.api_Guid (0, 0))).setCells ⟨b3, 0, none⟩ cs0).put l0 R0.busy).cell? ⟨b1, 0, none⟩) = (some (.int .u64 n2))) ∧ bcase ((n1 == n2))
 ((stub_Stubs_Disconnect.k2 h1 b3 cs0 l0 R0 b0 b2 K0))
 ((stub_Stubs_Disconnect.k3 h1 b3 cs0 l0 R0 K0))))) → HY P l0 #[.agg cs0, .int .u64 n1] h1 (K0))))))) → HC P g0 (Array.mk (Array.toList first0 ++ ((.func (.yield l0) #[] #[]) :: (Array.toList cap0)))) (h0.put l0 R0.ready) (fun x0 h4 => (stub_Stubs_Disconnect.k4 h4 l0 R0 b2 K)))))))
def stub_Stubs_Disconnect (p0 : Option Addr) (n0 : Int) (K : Value → Hp → Prop) (h : Hp) : Prop :=
 (∀ b0 : Nat, ((h b0) = none → (∀ b1 : Nat, (((h.put b0 (.cells #[.pointer p0] T.ptr_stub_Stubs (0, 0))) b1) = none → (∀ b2 : Nat, ((((h.put b0 (.cells #[.pointer p0] T.ptr_stub_Stubs (0, 0))).put b1 (.cells #[.int .u64 n0] T.uint64 (0, 0))) b2) = none → (∃ u0 : Value, ((((h.put b0 (.cells #[.pointer p0] T.ptr_stub_Stubs (0, 0))).put b1 (.cells #[.int .u64 n0] T.uint64 (0, 0))).put b2 (.cells #[.int .i64 0] T.int (0, 0))).cell? ⟨b2, 0, none⟩) = (some u0)) ∧ (((((h.put b0 (.cells #[.pointer p0] T.ptr_stub_Stubs (0, 0))).put b1 (.cells #[.int .u64 n0] T.uint64 (0, 0))).put b2 (.cells #[.int .i64 0] T.int (0, 0))).frozen? ⟨b2, 0, none⟩) = Bool.false) ∧ (∃ a0 : Option Addr, ((((((h.put b0 (.cells #[.pointer p0] T.ptr_stub_Stubs (0, 0))).put b1 (.cells #[.int .u64 n0] T.uint64 (0, 0))).put b2 (.cells #[.int .i64 0] T.int (0, 0))).setCell ⟨b2, 0, none⟩ (.int .i64 0)).cell? ⟨b0, 0, none⟩) = (some (.pointer a0))) ∧ HC P stub_Stubs_All.n #[.pointer a0] ((((h.put b0 (.cells #[.pointer p0] T.ptr_stub_Stubs (0, 0))).put b1 (.cells #[.int .u64 n0] T.uint64 (0, 0))).put b2 (.cells #[.int .i64 0] T.int (0, 0))).setCell ⟨b2, 0, none⟩ (.int .i64 0)) (fun v0 h0 => (∃ g0 : Nat, (∃ first0 : Array Value, (∃ cap0 : Array Value, (v0 = (.func (.func g0) first0 cap0)) ∧ (stub_Stubs_Disconnect.k5 g0 h0 b1 b0 b2 first0 cap0 K))))))))))))
theorem stub_Stubs_Disconnect.hc {p0 : Option Addr} {n0 : Int} {K : Value → Hp → Prop} {h : Hp} (hh : stub_Stubs_Disconnect p0 n0 K h) : HC P stub_Stubs_Disconnect.n #[.pointer p0, .int .u64 n0] h K :=
  HC_of_den (fn := Go.Proofs.Try.f29) (args := [.pointer p0, .int .u64 n0]) Go.Proofs.Try.func29 rfl (Nat.le_of_ble_eq_true (by kernel_rfl)) (den_cast hh (by kernel_rfl))

def stub_Stubs_of.k0 (h1 : Hp) (l0 : Nat) (R0 : Rec) (b2 : Nat) (a1 : Option Addr) (b3 : Nat) (n1 : Int) (K0 : Value → Hp → Prop) : Prop :=
 (∃ u0 : Value, ((h1.put l0 R0.busy).cell? ⟨b2, 0, none⟩) = (some u0)) ∧ (((h1.put l0 R0.busy).frozen? ⟨b2, 0, none⟩) = Bool.false) ∧ (∃ u1 : Value, (((h1.put l0 R0.busy).setCell ⟨b2, 0, none⟩ (.pointer a1)).cell? ⟨b3, 0, none⟩) = (some u1)) ∧ ((((h1.put l0 R0.busy).setCell ⟨b2, 0, none⟩ (.pointer a1)).frozen? ⟨b3, 0, none⟩) = Bool.false) ∧ (((((h1.put l0 R0.busy).setCell ⟨b2, 0, none⟩ (.pointer a1)).setCell ⟨b3, 0, none⟩ (.int .u64 n1)) l0) = (some R0.busy)) ∧ K0 (.bool Bool.false) ((((h1.put l0 R0.busy).setCell ⟨b2, 0, none⟩ (.pointer a1)).setCell ⟨b3, 0, none⟩ (.int .u64 n1)).put l0 (R0.done .ret))
def stub_Stubs_of.k1 (a1 : Option Addr) (h1 : Hp) (l0 : Nat) (R0 : Rec) (b1 : Nat) (b2 : Nat) (b3 : Nat) (n1 : Int) (K0 : Value → Hp → Prop) : Prop :=
 someD a1 (fun p3 => (∃ cs1 : Array Value, (CellsAt (h1.put l0 R0.busy) (p3.add 1) 16 cs1) ∧ (∃ cs2 : Array Value, (CellsAt (h1.put l0 R0.busy) ⟨b1, 0, none⟩ 16 cs2) ∧ (IntCells P T.api_Guid cs1) ∧ (IntCells P T.api_Guid cs2) ∧ bcase (aggEq cs1 cs2)
 ((stub_Stubs_of.k0 h1 l0 R0 b2 a1 b3 n1 K0))
 ((((h1.put l0 R0.busy) l0) = (some R0.busy)) ∧ K0 (.bool Bool.true) ((h1.put l0 R0.busy).put l0 R0.ready)))))
def stub_Stubs_of.k2 (h2 : Hp) (l0 : Nat) (R0 : Rec) (b2 : Nat) (b3 : Nat) (K : Value → Hp → Prop) : Prop :=
 ((((h2 l0) = (some R0.ready)) ∧ (∃ u2 : Value, ((h2.put l0 R0.over).cell? ⟨b2, 0, none⟩) = (some u2)) ∧ (((h2.put l0 R0.over).frozen? ⟨b2, 0, none⟩) = Bool.false) ∧ (∃ u3 : Value, (((h2.put l0 R0.over).setCell ⟨b2, 0, none⟩ (.pointer none)).cell? ⟨b3, 0, none⟩) = (some u3)) ∧ ((((h2.put l0 R0.over).setCell ⟨b2, 0, none⟩ (.pointer none)).frozen? ⟨b3, 0, none⟩) = Bool.false) ∧ (∃ a2 : Option Addr, (((((h2.put l0 R0.over).setCell ⟨b2, 0, none⟩ (.pointer none)).setCell ⟨b3, 0, none⟩ (.int .u64 0)).cell? ⟨b2, 0, none⟩) = (some (.pointer a2))) ∧ (∃ n4 : Int, (((((h2.put l0 R0.over).setCell ⟨b2, 0, none⟩ (.pointer none)).setCell ⟨b3, 0, none⟩ (.int .u64 0)).cell? ⟨b3, 0, none⟩) = (some (.int .u64 n4))) ∧ K (.tuple #[.pointer a2, .int .u64 n4]) (((h2.put l0 R0.over).setCell ⟨b2, 0, none⟩ (.pointer none)).setCell ⟨b3, 0, none⟩ (.int .u64 0))))) ∨ ((((h2 l0) = (some (R0.done .ret))) ∧ (∃ a3 : Option Addr, (((h2.put l0 (R0.overBy .ret)).cell? ⟨b2, 0, none⟩) = (some (.pointer a3))) ∧ (∃ n5 : Int, (((h2.put l0 (R0.overBy .ret)).cell? ⟨b3, 0, none⟩) = (some (.int .u64 n5))) ∧ K (.tuple #[.pointer a3, .int .u64 n5]) (h2.put l0 (R0.overBy .ret))))) ∨ False))
def stub_Stubs_of.k3 (g0 : Nat) (h0 : Hp) (b0 : Nat) (b1 : Nat) (b2 : Nat) (b3 : Nat) (first0 : Array Value) (cap0 : Array Value) (K : Value → Hp → Prop) : Prop :=
 trueD (callable P g0) ((∀ l0 : Nat, (∀ R0 : Rec, ((h0 l0) = none → ((∀ n1 : Int, (∀ a1 : Option Addr, (∀ h1 : Hp, (∀ K0 : Value → Hp → Prop, ((h1 l0) = (some R0.ready) → (((h1 l0) = (some R0.ready)) ∧ someD a1 (fun p2 => (∃ n2 : Int, (((h1.put l0 R0.busy).cell? (p2.add 0)) = (some (.int .u64 n2))) ∧ (∃ n3 : Int, (((h1.put l0 R0.busy).cell? ⟨b0, 0, none⟩) = (some (.int .u64 n3))) ∧ bcase ((n2 == n3))
 ((stub_Stubs_of.k1 a1 h1 l0 R0 b1 b2 b3 n1 K0))
 ((((h1.put l0 R0.busy) l0) = (some R0.busy)) ∧ K0 (.bool Bool.true) ((h1.put l0 R0.busy).put l0 R0.ready))))) → HY P l0 #[.int .u64 n1, .pointer a1] h1 (K0))))))) → HC P g0 (Array.mk (Array.toList first0 ++ ((.func (.yield l0) #[] #[]) :: (Array.toList cap0)))) (h0.put l0 R0.ready) (fun x0 h2 => (stub_Stubs_of.k2 h2 l0 R0 b2 b3 K)))))))
def stub_Stubs_of (p0 : Option Addr) (n0 : Int) (cs0 : Array Value) (K : Value → Hp → Prop) (h : Hp) : Prop :=
 (∀ b0 : Nat, ((h b0) = none → (∀ b1 : Nat, (((h.put b0 (.cells #[.int .u64 n0] T.uint64 (0, 0))) b1) = none → (∀ b2 : Nat, ((((h.put b0 (.cells #[.int .u64 n0] T.uint64 (0, 0))).put b1 (.cells cs0 T.api_Guid (0, 0))) b2) = none → (∀ b3 : Nat, (((((h.put b0 (.cells #[.int .u64 n0] T.uint64 (0, 0))).put b1 (.cells cs0 T.api_Guid (0, 0))).put b2 (.cells #[.pointer none] T.ptr_stub_stub (0, 0))) b3) = none → someD p0 (fun p1 => (∃ a0 : Option Addr, ((((((h.put b0 (.cells #[.int .u64 n0] T.uint64 (0, 0))).put b1 (.cells cs0 T.api_Guid (0, 0))).put b2 (.cells #[.pointer none] T.ptr_stub_stub (0, 0))).put b3 (.cells #[.int .u64 0] T.uint64 (0, 0))).cell? (p1.add 1)) = (some (.pointer a0))) ∧ HC P arena_Arena_stub_stub_All.n #[.pointer a0] ((((h.put b0 (.cells #[.int .u64 n0] T.uint64 (0, 0))).put b1 (.cells cs0 T.api_Guid (0, 0))).put b2 (.cells #[.pointer none] T.ptr_stub_stub (0, 0))).put b3 (.cells #[.int .u64 0] T.uint64 (0, 0))) (fun v0 h0 => (∃ g0 : Nat, (∃ first0 : Array Value, (∃ cap0 : Array Value, (v0 = (.func (.func g0) first0 cap0)) ∧ (stub_Stubs_of.k3 g0 h0 b0 b1 b2 b3 first0 cap0 K)))))))))))))))
theorem stub_Stubs_of.hc {p0 : Option Addr} {n0 : Int} {cs0 : Array Value} {K : Value → Hp → Prop} {h : Hp} (hh : stub_Stubs_of p0 n0 cs0 K h) : HC P stub_Stubs_of.n #[.pointer p0, .int .u64 n0, .agg cs0] h K :=
  HC_of_den (fn := Go.Proofs.Try.f32) (args := [.pointer p0, .int .u64 n0, .agg cs0]) Go.Proofs.Try.func32 rfl (Nat.le_of_ble_eq_true (by kernel_rfl)) (den_cast hh (by kernel_rfl))

def stub_stub_table.k0 (p0 : Option Addr) (n0 : Int) (h : Hp) (K : Value → Hp → Prop) : Prop :=
 someD p0 (fun p2 => ((0 : Int) ≤ n0) ∧ (n0 < (3 : Int)) ∧ (∃ n2 : Int, ((h.cell? ((p2.add 18).add (n0.toNat * 1))) = (some (.int .u32 n2))) ∧ someD p0 (fun p3 => ((0 : Int) ≤ n0) ∧ (n0 < (3 : Int)) ∧ (∃ u0 : Value, (h.cell? ((p3.add 18).add (n0.toNat * 1))) = (some u0)) ∧ ((h.frozen? ((p3.add 18).add (n0.toNat * 1))) = Bool.false) ∧ K (.int .i64 0) (h.setCell ((p3.add 18).add (n0.toNat * 1)) (.int .u32 (IntKind.wrap .u32 (n2 + 1)))))))
def stub_stub_table (p0 : Option Addr) (n0 : Int) (K : Value → Hp → Prop) (h : Hp) : Prop :=
 someD p0 (fun p1 => ((0 : Int) ≤ n0) ∧ (n0 < (3 : Int)) ∧ (∃ n1 : Int, ((h.cell? ((p1.add 18).add (n0.toNat * 1))) = (some (.int .u32 n1))) ∧ bcase ((n1 == 4294967295))
 (K (.int .i64 4) h)
 ((stub_stub_table.k0 p0 n0 h K))))
theorem stub_stub_table.hc {p0 : Option Addr} {n0 : Int} {K : Value → Hp → Prop} {h : Hp} (hh : stub_stub_table p0 n0 K h) : HC P stub_stub_table.n #[.pointer p0, .int .u32 n0] h K :=
  HC_of_den (fn := Go.Proofs.Try.f36) (args := [.pointer p0, .int .u32 n0]) Go.Proofs.Try.func36 rfl (Nat.le_of_ble_eq_true (by kernel_rfl)) (den_cast hh (by kernel_rfl))

def stub_Stubs_find.k0 (n1 : Int) (K : Value → Hp → Prop) (h1 : Hp) (a1 : Option Addr) (n0 : Int) : Prop :=
 bcase ((n1 != 0))
 (K (.tuple #[.pointer none, .int .u64 0, .int .i64 10]) h1)
 (K (.tuple #[.pointer a1, .int .u64 n0, .int .i64 0]) h1)
def stub_Stubs_find.k1 (p0 : Option Addr) (h0 : Hp) (n0 : Int) (K : Value → Hp → Prop) : Prop :=
 someD p0 (fun p1 => (∃ a0 : Option Addr, ((h0.cell? (p1.add 1)) = (some (.pointer a0))) ∧ HC P arena_Arena_stub_stub_Get.n #[.pointer a0, .int .u64 n0] h0 (fun v1 h1 => (∃ a1 : Option Addr, (∃ n1 : Int, (v1 = (.tuple #[.pointer a1, .int .i64 n1])) ∧ (stub_Stubs_find.k0 n1 K h1 a1 n0))))))
def stub_Stubs_find.k2 (b1 : Bool) (K : Value → Hp → Prop) (h0 : Hp) (p0 : Option Addr) (n0 : Int) : Prop :=
 bcase ((!b1))
 (K (.tuple #[.pointer none, .int .u64 0, .int .i64 10]) h0)
 ((stub_Stubs_find.k1 p0 h0 n0 K))
def stub_Stubs_find.k3 (p0 : Option Addr) (K : Value → Hp → Prop) (h0 : Hp) (b1 : Bool) (n0 : Int) : Prop :=
 bcase (p0.isNone)
 (K (.tuple #[.pointer none, .int .u64 0, .int .i64 10]) h0)
 ((stub_Stubs_find.k2 b1 K h0 p0 n0))
def stub_Stubs_find (p0 : Option Addr) (cs0 : Array Value) (K : Value → Hp → Prop) (h : Hp) : Prop :=
 (∀ b0 : Nat, ((h b0) = none → (∃ cs1 : Array Value, (CellsAt (h.put b0 (.cells cs0 T.api_Guid (0, 0))) ⟨b0, 0, none⟩ 16 cs1) ∧ HC P guid_Number.n #[.agg cs1] (h.put b0 (.cells cs0 T.api_Guid (0, 0))) (fun v0 h0 => (∃ n0 : Int, (∃ b1 : Bool, (v0 = (.tuple #[.int .u64 n0, .bool b1])) ∧ (stub_Stubs_find.k3 p0 K h0 b1 n0)))))))
theorem stub_Stubs_find.hc {p0 : Option Addr} {cs0 : Array Value} {K : Value → Hp → Prop} {h : Hp} (hh : stub_Stubs_find p0 cs0 K h) : HC P stub_Stubs_find.n #[.pointer p0, .agg cs0] h K :=
  HC_of_den (fn := Go.Proofs.Try.f38) (args := [.pointer p0, .agg cs0]) Go.Proofs.Try.func38 rfl (Nat.le_of_ble_eq_true (by kernel_rfl)) (den_cast hh (by kernel_rfl))

def stub_Stubs_sweep.k0 (p0 : Option Addr) (h0 : Hp) (n0 : Int) (K : Value → Hp → Prop) : Prop :=
 someD p0 (fun p2 => (∃ a0 : Option Addr, ((h0.cell? (p2.add 1)) = (some (.pointer a0))) ∧ HC P arena_Arena_stub_stub_Drop.n #[.pointer a0, .int .u64 n0] h0 (fun v1 h1 => (∃ a1 : Option Addr, (∃ n1 : Int, (v1 = (.tuple #[.pointer a1, .int .i64 n1])) ∧ K (.tuple #[]) h1)))))
def stub_Stubs_sweep.k1 (b0 : Bool) (p0 : Option Addr) (h0 : Hp) (n0 : Int) (K : Value → Hp → Prop) : Prop :=
 bcase ((!b0))
 ((stub_Stubs_sweep.k0 p0 h0 n0 K))
 (K (.tuple #[]) h0)
def stub_Stubs_sweep (p0 : Option Addr) (p1 : Option Addr) (n0 : Int) (K : Value → Hp → Prop) (h : Hp) : Prop :=
 HC P stub_stub_used.n #[.pointer p1] h (fun v0 h0 => (∃ b0 : Bool, (v0 = (.bool b0)) ∧ (stub_Stubs_sweep.k1 b0 p0 h0 n0 K)))
theorem stub_Stubs_sweep.hc {p0 : Option Addr} {p1 : Option Addr} {n0 : Int} {K : Value → Hp → Prop} {h : Hp} (hh : stub_Stubs_sweep p0 p1 n0 K h) : HC P stub_Stubs_sweep.n #[.pointer p0, .pointer p1, .int .u64 n0] h K :=
  HC_of_den (fn := Go.Proofs.Try.f40) (args := [.pointer p0, .pointer p1, .int .u64 n0]) Go.Proofs.Try.func40 rfl (Nat.le_of_ble_eq_true (by kernel_rfl)) (den_cast hh (by kernel_rfl))

def stub_Stubs_All (p0 : Option Addr) (K : Value → Hp → Prop) (h : Hp) : Prop :=
 (∀ b0 : Nat, ((h b0) = none → K (.func (.func stub_Stubs_All_1.n) #[] #[.pointer (some ⟨b0, 0, none⟩)]) (h.put b0 (.cells #[.pointer p0] T.ptr_stub_Stubs (0, 0)))))
theorem stub_Stubs_All.hc {p0 : Option Addr} {K : Value → Hp → Prop} {h : Hp} (hh : stub_Stubs_All p0 K h) : HC P stub_Stubs_All.n #[.pointer p0] h K :=
  HC_of_den (fn := Go.Proofs.Try.f44) (args := [.pointer p0]) Go.Proofs.Try.func44 rfl (Nat.le_of_ble_eq_true (by kernel_rfl)) (den_cast hh (by kernel_rfl))

def stub_stub_used.k0 (p0 : Option Addr) (h0 : Hp) (K : Value → Hp → Prop) : Prop :=
 someD p0 (fun p3 => ((0 : Int) ≤ 2) ∧ ((2 : Int) < (3 : Int)) ∧ (∃ n2 : Int, ((h0.cell? ((p3.add 18).add ((2 : Int).toNat * 1))) = (some (.int .u32 n2))) ∧ K (.bool (decide ((0 : Int) < n2))) h0))
def stub_stub_used.k1 (p0 : Option Addr) (h0 : Hp) (K : Value → Hp → Prop) : Prop :=
 someD p0 (fun p2 => ((0 : Int) ≤ 1) ∧ ((1 : Int) < (3 : Int)) ∧ (∃ n1 : Int, ((h0.cell? ((p2.add 18).add ((1 : Int).toNat * 1))) = (some (.int .u32 n1))) ∧ bcase (decide ((0 : Int) < n1))
 (K (.bool Bool.true) h0)
 ((stub_stub_used.k0 p0 h0 K))))
def stub_stub_used.k2 (n0 : Int) (K : Value → Hp → Prop) (h0 : Hp) (p0 : Option Addr) : Prop :=
 bcase (decide ((0 : Int) < n0))
 (K (.bool Bool.true) h0)
 ((stub_stub_used.k1 p0 h0 K))
def stub_stub_used (p0 : Option Addr) (K : Value → Hp → Prop) (h : Hp) : Prop :=
 someD p0 (fun p1 => (∃ a0 : Option Addr, ((h.cell? (p1.add 17)) = (some (.pointer a0))) ∧ HC P tally_Tally_Sum.n #[.pointer a0] h (fun v0 h0 => (∃ n0 : Int, (v0 = (.int .u64 n0)) ∧ (stub_stub_used.k2 n0 K h0 p0)))))
theorem stub_stub_used.hc {p0 : Option Addr} {K : Value → Hp → Prop} {h : Hp} (hh : stub_stub_used p0 K h) : HC P stub_stub_used.n #[.pointer p0] h K :=
  HC_of_den (fn := Go.Proofs.Try.f65) (args := [.pointer p0]) Go.Proofs.Try.func65 rfl (Nat.le_of_ble_eq_true (by kernel_rfl)) (den_cast hh (by kernel_rfl))

def stub_Stubs_All_1.k0 (K : Value → Hp → Prop) (h : Hp) (b0 : Nat) (l0 : Nat) : Prop :=
 K (.tuple #[]) (h.put b0 (.cells #[.func (.yield l0) #[] #[]] T.func_api_Guid_uint64_bool_2 (0, 0)))
def stub_Stubs_All_1.k1 (b1 : Bool) (h3 : Hp) (l1 : Nat) (R0 : Rec) (K0 : Value → Hp → Prop) : Prop :=
 bcase ((!b1))
 (((h3 l1) = (some R0.busy)) ∧ K0 (.bool Bool.false) (h3.put l1 (R0.done .ret)))
 (((h3 l1) = (some R0.busy)) ∧ K0 (.bool Bool.true) (h3.put l1 R0.ready))
def stub_Stubs_All_1.k2 (h2 : Hp) (p3 : Addr) (n1 : Int) (b0 : Nat) (g1 : Nat) (first1 : Array Value) (cap1 : Array Value) (cs0 : Array Value) (l1 : Nat) (R0 : Rec) (K0 : Value → Hp → Prop) : Prop :=
 (∃ n2 : Int, ((h2.cell? (p3.add 0)) = (some (.int .u64 n2))) ∧ (.int .u64 n2 : Value) = (.int .u64 n1)) ∧ ((∃ g2 : Nat, (∃ first2 : Array Value, (∃ cap2 : Array Value, ((h2.cell? ⟨b0, 0, none⟩) = (some (.func (.func g2) first2 cap2))) ∧ (.func (.func g2) first2 cap2 : Value) = (.func (.func g1) first1 cap1)))) ∨ (∃ l2 : Nat, (∃ first3 : Array Value, (∃ cap3 : Array Value, ((h2.cell? ⟨b0, 0, none⟩) = (some (.func (.yield l2) first3 cap3))) ∧ (.func (.yield l2) first3 cap3 : Value) = (.func (.func g1) first1 cap1))))) ∧ trueD (callable P g1) (HC P g1 (Array.mk (Array.toList first1 ++ ((.agg cs0) :: ((.int .u64 n1) :: (List.append [] (Array.toList cap1)))))) h2 (fun v2 h3 => (∃ b1 : Bool, (v2 = (.bool b1)) ∧ (stub_Stubs_All_1.k1 b1 h3 l1 R0 K0))))
def stub_Stubs_All_1.k3 (h4 : Hp) (p3 : Addr) (n3 : Int) (b0 : Nat) (l3 : Nat) (first4 : Array Value) (cap4 : Array Value) (cs1 : Array Value) (l1 : Nat) (R0 : Rec) (K0 : Value → Hp → Prop) : Prop :=
 (∃ n4 : Int, ((h4.cell? (p3.add 0)) = (some (.int .u64 n4))) ∧ (.int .u64 n4 : Value) = (.int .u64 n3)) ∧ ((∃ g3 : Nat, (∃ first5 : Array Value, (∃ cap5 : Array Value, ((h4.cell? ⟨b0, 0, none⟩) = (some (.func (.func g3) first5 cap5))) ∧ (.func (.func g3) first5 cap5 : Value) = (.func (.yield l3) first4 cap4)))) ∨ (∃ l4 : Nat, (∃ first6 : Array Value, (∃ cap6 : Array Value, ((h4.cell? ⟨b0, 0, none⟩) = (some (.func (.yield l4) first6 cap6))) ∧ (.func (.yield l4) first6 cap6 : Value) = (.func (.yield l3) first4 cap4))))) ∧ HY P l3 (Array.mk (Array.toList first4 ++ [.agg cs1, .int .u64 n3])) h4 (fun v4 h5 => (∃ b2 : Bool, (v4 = (.bool b2)) ∧ (stub_Stubs_All_1.k1 b2 h5 l1 R0 K0)))
def stub_Stubs_All_1.k4 (h6 : Hp) (l1 : Nat) (R0 : Rec) (K : Value → Hp → Prop) : Prop :=
 ((((h6 l1) = (some R0.ready)) ∧ K (.tuple #[]) (h6.put l1 R0.over)) ∨ ((((h6 l1) = (some (R0.done .ret))) ∧ K (.tuple #[]) (h6.put l1 (R0.overBy .ret))) ∨ False))
def stub_Stubs_All_1.k5 (g0 : Nat) (h0 : Hp) (b0 : Nat) (first0 : Array Value) (cap0 : Array Value) (K : Value → Hp → Prop) : Prop :=
 trueD (callable P g0) ((∀ l1 : Nat, (∀ R0 : Rec, ((h0 l1) = none → ((∀ n0 : Int, (∀ a3 : Option Addr, (∀ h1 : Hp, (∀ K0 : Value → Hp → Prop, ((h1 l1) = (some R0.ready) → (((h1 l1) = (some R0.ready)) ∧ someD a3 (fun p3 => ((∃ g1 : Nat, (∃ first1 : Array Value, (∃ cap1 : Array Value, (((h1.put l1 R0.busy).cell? ⟨b0, 0, none⟩) = (some (.func (.func g1) first1 cap1))) ∧ (∃ n1 : Int, (((h1.put l1 R0.busy).cell? (p3.add 0)) = (some (.int .u64 n1))) ∧ HC P guid_Of.n #[.int .u64 n0] (h1.put l1 R0.busy) (fun v1 h2 => (∃ cs0 : Array Value, (v1 = (.agg cs0)) ∧ (stub_Stubs_All_1.k2 h2 p3 n1 b0 g1 first1 cap1 cs0 l1 R0 K0))))))) ∨ (∃ l3 : Nat, (∃ first4 : Array Value, (∃ cap4 : Array Value, (((h1.put l1 R0.busy).cell? ⟨b0, 0, none⟩) = (some (.func (.yield l3) first4 cap4))) ∧ (∃ n3 : Int, (((h1.put l1 R0.busy).cell? (p3.add 0)) = (some (.int .u64 n3))) ∧ HC P guid_Of.n #[.int .u64 n0] (h1.put l1 R0.busy) (fun v3 h4 => (∃ cs1 : Array Value, (v3 = (.agg cs1)) ∧ (stub_Stubs_All_1.k3 h4 p3 n3 b0 l3 first4 cap4 cs1 l1 R0 K0))))))))) → HY P l1 #[.int .u64 n0, .pointer a3] h1 (K0))))))) → HC P g0 (Array.mk (Array.toList first0 ++ ((.func (.yield l1) #[] #[]) :: (Array.toList cap0)))) (h0.put l1 R0.ready) (fun x0 h6 => (stub_Stubs_All_1.k4 h6 l1 R0 K)))))))
def stub_Stubs_All_1.k6 (fv0 : Option Addr) (h : Hp) (b0 : Nat) (l0 : Nat) (K : Value → Hp → Prop) : Prop :=
 someD fv0 (fun p1 => (∃ a1 : Option Addr, (((h.put b0 (.cells #[.func (.yield l0) #[] #[]] T.func_api_Guid_uint64_bool_2 (0, 0))).cell? p1) = (some (.pointer a1))) ∧ someD a1 (fun p2 => (∃ a2 : Option Addr, (((h.put b0 (.cells #[.func (.yield l0) #[] #[]] T.func_api_Guid_uint64_bool_2 (0, 0))).cell? (p2.add 1)) = (some (.pointer a2))) ∧ HC P arena_Arena_stub_stub_All.n #[.pointer a2] (h.put b0 (.cells #[.func (.yield l0) #[] #[]] T.func_api_Guid_uint64_bool_2 (0, 0))) (fun v0 h0 => (∃ g0 : Nat, (∃ first0 : Array Value, (∃ cap0 : Array Value, (v0 = (.func (.func g0) first0 cap0)) ∧ (stub_Stubs_All_1.k5 g0 h0 b0 first0 cap0 K)))))))))
def stub_Stubs_All_1 (l0 : Nat) (fv0 : Option Addr) (K : Value → Hp → Prop) (h : Hp) : Prop :=
 (∀ b0 : Nat, ((h b0) = none → someD fv0 (fun p0 => (∃ a0 : Option Addr, (((h.put b0 (.cells #[.func (.yield l0) #[] #[]] T.func_api_Guid_uint64_bool_2 (0, 0))).cell? p0) = (some (.pointer a0))) ∧ bcase (a0.isNone)
 ((stub_Stubs_All_1.k0 K h b0 l0))
 ((stub_Stubs_All_1.k6 fv0 h b0 l0 K))))))
theorem stub_Stubs_All_1.hc {l0 : Nat} {fv0 : Option Addr} {K : Value → Hp → Prop} {h : Hp} (hh : stub_Stubs_All_1 l0 fv0 K h) : HC P stub_Stubs_All_1.n #[.func (.yield l0) #[] #[], .pointer fv0] h K :=
  HC_of_den (fn := Go.Proofs.Try.f68) (args := [.func (.yield l0) #[] #[], .pointer fv0]) Go.Proofs.Try.func68 rfl (Nat.le_of_ble_eq_true (by kernel_rfl)) (den_cast hh (by kernel_rfl))

def slices_Compact_uint64_uint64.k0 (n5 : Int) (len0 : Nat) (n1 : Int) (a0 : Option Addr) (cap0 : Nat) (h1 : Hp) (n4 : Int) (I1 : List Value → Hp → Prop) (x1 : List Value → Hp → Nat) : Prop :=
 ((0 : Int) ≤ n5) ∧ (n5 < (((len0 - n1.toNat) : Nat) : Int)) ∧ someD (Den.offA a0 cap0 n1.toNat 1) (fun p4 => (∃ n8 : Int, ((h1.cell? (p4.add (n5.toNat * 1))) = (some (.int .u64 n8))) ∧ ((0 : Int) ≤ n4) ∧ (n4 < (len0 : Int)) ∧ someD a0 (fun p5 => (∃ u0 : Value, (h1.cell? (p5.add (n4.toNat * 1))) = (some u0)) ∧ ((h1.frozen? (p5.add (n4.toNat * 1))) = Bool.false) ∧ (I1 [.int .i64 (IntKind.wrap .i64 (n4 + 1)), .int .i64 (IntKind.wrap .i64 (n5 + 1))] (h1.setCell (p5.add (n4.toNat * 1)) (.int .u64 n8))) ∧ (x1 [.int .i64 (IntKind.wrap .i64 (n4 + 1)), .int .i64 (IntKind.wrap .i64 (n5 + 1))] (h1.setCell (p5.add (n4.toNat * 1)) (.int .u64 n8))) < (x1 [.int .i64 n4, .int .i64 n5] h1))))
def slices_Compact_uint64_uint64.k1 (I1 : List Value → Hp → Prop) (n4 : Int) (n5 : Int) (h1 : Hp) (x1 : List Value → Hp → Nat) : Prop :=
 (I1 [.int .i64 n4, .int .i64 (IntKind.wrap .i64 (n5 + 1))] h1) ∧ (x1 [.int .i64 n4, .int .i64 (IntKind.wrap .i64 (n5 + 1))] h1) < (x1 [.int .i64 n4, .int .i64 n5] h1)
def slices_Compact_uint64_uint64.k2 (n5 : Int) (len0 : Nat) (n1 : Int) (a0 : Option Addr) (cap0 : Nat) (h1 : Hp) (n4 : Int) (I1 : List Value → Hp → Prop) (x1 : List Value → Hp → Nat) : Prop :=
 ((0 : Int) ≤ n5) ∧ (n5 < (((len0 - n1.toNat) : Nat) : Int)) ∧ someD (Den.offA a0 cap0 n1.toNat 1) (fun p2 => (∃ n6 : Int, ((h1.cell? (p2.add (n5.toNat * 1))) = (some (.int .u64 n6))) ∧ ((0 : Int) ≤ (IntKind.wrap .i64 (n5 - 1))) ∧ ((IntKind.wrap .i64 (n5 - 1)) < (((len0 - n1.toNat) : Nat) : Int)) ∧ someD (Den.offA a0 cap0 n1.toNat 1) (fun p3 => (∃ n7 : Int, ((h1.cell? (p3.add ((IntKind.wrap .i64 (n5 - 1)).toNat * 1))) = (some (.int .u64 n7))) ∧ bcase ((n6 != n7))
 ((slices_Compact_uint64_uint64.k0 n5 len0 n1 a0 cap0 h1 n4 I1 x1))
 ((slices_Compact_uint64_uint64.k1 I1 n4 n5 h1 x1))))))
def slices_Compact_uint64_uint64.k3 (n4 : Int) (cap0 : Nat) (K : Value → Hp → Prop) (a0 : Option Addr) (h2 : Hp) : Prop :=
 ((0 : Int) ≤ n4) ∧ (n4 ≤ (cap0 : Int)) ∧ K (.slice (Den.offA a0 cap0 0 1) (n4.toNat - 0) (cap0 - 0)) h2
def slices_Compact_uint64_uint64.k4 (n4 : Int) (len0 : Nat) (a0 : Option Addr) (cap0 : Nat) (K : Value → Hp → Prop) (h1 : Hp) : Prop :=
 ((0 : Int) ≤ n4) ∧ (n4 ≤ (len0 : Int)) ∧ wpSem P (Builtin.clear_ #[T.sl_uint64] T.unit #[.slice (Den.offA a0 cap0 n4.toNat 1) (len0 - n4.toNat) (cap0 - n4.toNat)]) (fun v0 h2 => (slices_Compact_uint64_uint64.k3 n4 cap0 K a0 h2)) h1
def slices_Compact_uint64_uint64.k5 (n1 : Int) (len0 : Nat) (h0 : Hp) (a0 : Option Addr) (cap0 : Nat) (K : Value → Hp → Prop) : Prop :=
 ((0 : Int) ≤ n1) ∧ (n1 ≤ (len0 : Int)) ∧ (∃ I1 : List Value → Hp → Prop, (∃ x1 : List Value → Hp → Nat, (I1 [.int .i64 n1, .int .i64 1] h0) ∧ (∀ h1 : Hp, (∀ n4 : Int, (∀ n5 : Int, (I1 [.int .i64 n4, .int .i64 n5] h1 → bcase (decide (n5 < (((len0 - n1.toNat) : Nat) : Int)))
 ((slices_Compact_uint64_uint64.k2 n5 len0 n1 a0 cap0 h1 n4 I1 x1))
 ((slices_Compact_uint64_uint64.k4 n4 len0 a0 cap0 K h1))))))))
def slices_Compact_uint64_uint64.k6 (I0 : List Value → Hp → Prop) (a1 : Option Addr) (n0 : Nat) (c0 : Nat) (n1 : Int) (h0 : Hp) (x0 : List Value → Hp → Nat) : Prop :=
 (I0 [.slice a1 n0 c0, .int .i64 (IntKind.wrap .i64 (n1 + 1))] h0) ∧ (x0 [.slice a1 n0 c0, .int .i64 (IntKind.wrap .i64 (n1 + 1))] h0) < (x0 [.slice a1 n0 c0, .int .i64 n1] h0)
def slices_Compact_uint64_uint64.k7 (n1 : Int) (len0 : Nat) (a0 : Option Addr) (h0 : Hp) (cap0 : Nat) (K : Value → Hp → Prop) (I0 : List Value → Hp → Prop) (a1 : Option Addr) (n0 : Nat) (c0 : Nat) (x0 : List Value → Hp → Nat) : Prop :=
 ((0 : Int) ≤ n1) ∧ (n1 < (len0 : Int)) ∧ someD a0 (fun p0 => (∃ n2 : Int, ((h0.cell? (p0.add (n1.toNat * 1))) = (some (.int .u64 n2))) ∧ ((0 : Int) ≤ (IntKind.wrap .i64 (n1 - 1))) ∧ ((IntKind.wrap .i64 (n1 - 1)) < (len0 : Int)) ∧ someD a0 (fun p1 => (∃ n3 : Int, ((h0.cell? (p1.add ((IntKind.wrap .i64 (n1 - 1)).toNat * 1))) = (some (.int .u64 n3))) ∧ bcase ((n2 == n3))
 ((slices_Compact_uint64_uint64.k5 n1 len0 h0 a0 cap0 K))
 ((slices_Compact_uint64_uint64.k6 I0 a1 n0 c0 n1 h0 x0))))))
def slices_Compact_uint64_uint64.k8 (h : Hp) (len0 : Nat) (a0 : Option Addr) (cap0 : Nat) (K : Value → Hp → Prop) : Prop :=
 (∃ I0 : List Value → Hp → Prop, (∃ x0 : List Value → Hp → Nat, (I0 [.slice none 0 0, .int .i64 1] h) ∧ (∀ h0 : Hp, (∀ a1 : Option Addr, (∀ n0 : Nat, (∀ c0 : Nat, (∀ n1 : Int, (I0 [.slice a1 n0 c0, .int .i64 n1] h0 → bcase (decide (n1 < (len0 : Int)))
 ((slices_Compact_uint64_uint64.k7 n1 len0 a0 h0 cap0 K I0 a1 n0 c0 x0))
 (K (.slice a0 len0 cap0) h0)))))))))
def slices_Compact_uint64_uint64 (a0 : Option Addr) (len0 : Nat) (cap0 : Nat) (K : Value → Hp → Prop) (h : Hp) : Prop :=
 bcase (decide ((len0 : Int) < 2))
 (K (.slice a0 len0 cap0) h)
 ((slices_Compact_uint64_uint64.k8 h len0 a0 cap0 K))
theorem slices_Compact_uint64_uint64.hc {a0 : Option Addr} {len0 : Nat} {cap0 : Nat} {K : Value → Hp → Prop} {h : Hp} (hh : slices_Compact_uint64_uint64 a0 len0 cap0 K h) : HC P slices_Compact_uint64_uint64.n #[.slice a0 len0 cap0] h K :=
  HC_of_den (fn := Go.Proofs.Try.f59) (args := [.slice a0 len0 cap0]) Go.Proofs.Try.func59 rfl (Nat.le_of_ble_eq_true (by kernel_rfl)) (den_cast hh (by kernel_rfl))

end
end Go.Den.Stub
end

section
set_option linter.unusedVariables false
set_option maxRecDepth 100000
namespace Go.Den.Stub
open Go Go.Den

/-! ### Counts -/
structure Good (most : Nat) (l : List (Int × Nat)) (n : Nat) : Prop where
  keyed : Keyed l
  pos : Pos l
  le : ∀ k, cget l k ≤ most
  len : l.length ≤ n
theorem Good.nil {most n : Nat} : Good most [] n := ⟨by simp [Keyed], by simp [Pos], fun k => by simp [cget], by simp⟩
theorem Good.up {most n m : Nat} {l : List (Int × Nat)} (g : Good most l n) (h : n ≤ m) : Good most l m := ⟨g.keyed, g.pos, g.le, by have := g.len; omega⟩
theorem Good.set {most n : Nat} {l : List (Int × Nat)} {k : Int} {c : Nat} (g : Good most l n) (hc : c ≤ most) : Good most (cset l k c) (n + 1) := by
  rw [cset_eq]
  refine ⟨cput_keyed g.keyed, cput_pos g.pos, fun j => ?_, ?_⟩
  · rw [cget_cput g.keyed]; split
    · exact hc
    · exact g.le j
  · have := g.len; have := cput_len (l := l) (k := k) (c := c); omega
theorem Good.cget_set {most n : Nat} {l : List (Int × Nat)} {k j : Int} {c : Nat} (g : Good most l n) : cget (cset l k c) j = if j = k then c else cget l j := by
  rw [cset_eq, cget_cput g.keyed]
theorem le_sum : ∀ {l : List Nat} {x : Nat}, x ∈ l → x ≤ l.sum
  | y :: l, x, h => by
    rw [List.sum_cons]
    rcases List.mem_cons.1 h with rfl | h
    · omega
    · have := le_sum h; omega
theorem keysOf_nil : keysOf [] = [] := List.length_eq_zero_iff.1 (by rw [keysOf_len]; rfl)
theorem sum_pos {most n : Nat} {l : List (Int × Nat)} (g : Good most l n) : (0 < sumOf l) ↔ l ≠ [] := by
  constructor
  · rintro h rfl
    unfold sumOf at h; rw [keysOf_nil] at h; simp at h
  · intro hne
    cases l with
    | nil => exact absurd rfl hne
    | cons p l =>
      obtain ⟨a, c⟩ := p
      have h1 : 0 < c := g.pos (a, c) (by simp)
      have h2 : cget ((a, c) :: l) a = c := by simp [cget]
      have h3 : a ∈ keysOf ((a, c) :: l) := keysOf_perm.mem_iff.2 (by simp)
      have h4 := le_sum (l := (keysOf ((a, c) :: l)).map (cget ((a, c) :: l))) (x := c) (List.mem_map.2 ⟨a, h3, h2⟩)
      unfold sumOf; omega
theorem nil_iff {most n : Nat} {l : List (Int × Nat)} (g : Good most l n) : l = [] ↔ ∀ k, cget l k = 0 := by
  constructor
  · rintro rfl k; rfl
  · intro h
    cases l with
    | nil => rfl
    | cons p l =>
      obtain ⟨a, c⟩ := p
      have h1 : 0 < c := g.pos (a, c) (by simp)
      have := h a
      simp [cget] at this
      omega

/-! ### One stub -/
structure Stb where
  tgt : Nat
  iid : List Nat
  cn : List (Int × Nat)
  t0 : Nat
  t1 : Nat
  t2 : Nat
def stc (x : Stb) (tp : Nat) : List Value := .int .u64 x.tgt :: (gvs x.iid ++ [.pointer (some ⟨tp, 0, none⟩), .int .u32 x.t0, .int .u32 x.t1, .int .u32 x.t2])

structure StbR (h : Hp) (c : Col) (i b : Nat) (x : Stb) (n tp mr : Nat) : Prop where
  blk : h b = some (.cells (stc x tp).toArray T.stub_stub (0, 0))
  tal : TAt h tp mr 4294967295 x.cn
  col : c b = (2, i)
  ct : c tp = (2, i)
  cm : c mr = (2, i)
  ne : tp ≠ mr
  g : isG x.iid
  tg : x.tgt < 18446744073709551616
  good : Good 4294967295 x.cn n
  tt : x.t0 < 4294967296 ∧ x.t1 < 4294967296 ∧ x.t2 < 4294967296
def StbAt (h : Hp) (c : Col) (i b : Nat) (x : Stb) (n : Nat) : Prop := ∃ tp mr, StbR h c i b x n tp mr

variable {h h' : Hp} {c c' : Col} {K : Value → Hp → Prop} {i b n : Nat} {x : Stb}

theorem StbAt.keep (t : StbAt h c i b x n) (s : Same (fun r => r = (2, i)) h c h' c') : StbAt h' c' i b x n := by
  obtain ⟨tp, mr, t⟩ := t
  obtain ⟨e1, e2⟩ := s b t.col
  obtain ⟨e3, e4⟩ := s tp t.ct
  obtain ⟨e5, e6⟩ := s mr t.cm
  exact ⟨tp, mr, e1.trans t.blk, ⟨e3.trans t.tal.blk, t.tal.map.keep e5⟩, e2.trans t.col, e4.trans t.ct, e6.trans t.cm, t.ne, t.g, t.tg, t.good, t.tt⟩
theorem StbAt.up {m : Nat} (t : StbAt h c i b x n) (hm : n ≤ m) : StbAt h c i b x m := by
  obtain ⟨tp, mr, t⟩ := t
  exact ⟨tp, mr, t.blk, t.tal, t.col, t.ct, t.cm, t.ne, t.g, t.tg, t.good.up hm, t.tt⟩
theorem stc_get {tp : Nat} (g : isG x.iid) : (stc x tp).toArray[0]? = some (.int .u64 x.tgt) ∧ (stc x tp).toArray[17]? = some (.pointer (some ⟨tp, 0, none⟩)) ∧ (stc x tp).toArray[18]? = some (.int .u32 x.t0) ∧ (stc x tp).toArray[19]? = some (.int .u32 x.t1) ∧ (stc x tp).toArray[20]? = some (.int .u32 x.t2) := by
  have hl : (gvs x.iid).length = 16 := by rw [gvs_len, g.1]
  simp only [List.getElem?_toArray, stc]
  refine ⟨rfl, ?_, ?_, ?_, ?_⟩
  · rw [List.getElem?_cons_succ, List.getElem?_append_right (by omega), hl]; rfl
  · rw [List.getElem?_cons_succ, List.getElem?_append_right (by omega), hl]; rfl
  · rw [List.getElem?_cons_succ, List.getElem?_append_right (by omega), hl]; rfl
  · rw [List.getElem?_cons_succ, List.getElem?_append_right (by omega), hl]; rfl
theorem stc_iid {tp : Nat} (t : h b = some (.cells (stc x tp).toArray T.stub_stub (0, 0))) (g : isG x.iid) : CellsAt h ⟨b, 1, none⟩ 16 (gcs x.iid) := by
  refine ⟨by rw [gcs_size, g.1], fun j v hv => ?_⟩
  have hj := (Array.getElem?_eq_some_iff.1 hv).1
  rw [gcs_size] at hj
  rw [Addr.add_mk, cell_of t, show 1 + j = j + 1 by omega]
  simp only [List.getElem?_toArray, stc, List.getElem?_cons_succ]
  rw [List.getElem?_append_left (by rw [gvs_len]; exact hj)]
  simpa [gcs] using hv
theorem StbR.bt {tp mr : Nat} (t : StbR h c i b x n tp mr) : b ≠ tp ∧ b ≠ mr := by
  constructor
  · rintro rfl
    have := t.blk
    rw [t.tal.blk] at this
    simp at this
    exact absurd this.2 (by decide)
  · rintro rfl
    obtain ⟨es, cl, e, _⟩ := t.tal.map
    have := t.blk
    rw [e] at this
    cases this

def used (x : Stb) : Prop := x.cn ≠ [] ∨ 0 < x.t1 ∨ 0 < x.t2
noncomputable def usedB (x : Stb) : Bool := @decide (used x) (Classical.propDecidable _)
theorem usedB_true : usedB x = true ↔ used x := by unfold usedB; simp
theorem usedB_false : usedB x = false ↔ ¬ used x := by unfold usedB; simp

theorem used_spec (t : StbAt h c i b x n) (w : WF h c) (hn : n < 1000000) (hk : ∀ h', Step [] h [] h' → K (.bool (usedB x)) h') : HC P stub_stub_used.n #[.pointer (some ⟨b, 0, none⟩)] h K := by
  obtain ⟨tp, mr, t⟩ := t
  obtain ⟨-, e17, -, e19, e20⟩ := stc_get (x := x) (tp := tp) t.g
  refine stub_stub_used.hc ?_
  unfold stub_stub_used
  simp only [someD_some, Addr.add_mk, Nat.zero_add]
  have hg := t.good
  refine ⟨_, by rw [cell_of t.blk]; exact e17, Sum_spec t.tal (by have := hg.len; omega) (fun k => by have := hg.le k; omega) fun h1 s1 => ⟨_, rfl, ?_⟩⟩
  have B1 := s1.keepB0 t.blk
  unfold stub_stub_used.k2
  refine bcase_intro (fun hc => ?_) fun hc => ?_
  · have hc : 0 < sumOf x.cn := by have := of_decide_eq_true hc; omega
    have := hk _ s1
    rwa [usedB_true.2 (.inl ((sum_pos hg).1 hc))] at this
  have hc : ¬ 0 < sumOf x.cn := by have := of_decide_eq_false hc; omega
  have hnil : ¬ x.cn ≠ [] := fun e => hc ((sum_pos hg).2 e)
  unfold stub_stub_used.k1
  simp only [someD_some, Addr.add_mk]
  refine ⟨by omega, by omega, _, by rw [cell_of B1]; exact e19, bcase_intro (fun h1 => ?_) fun h1 => ?_⟩
  · have h1 : 0 < x.t1 := by have := of_decide_eq_true h1; omega
    have := hk _ s1
    rwa [usedB_true.2 (.inr (.inl h1))] at this
  have h1 : ¬ 0 < x.t1 := by have := of_decide_eq_false h1; omega
  unfold stub_stub_used.k0
  simp only [someD_some, Addr.add_mk]
  refine ⟨by omega, by omega, _, by rw [cell_of B1]; exact e20, ?_⟩
  have e : decide ((0 : Int) < (x.t2 : Int)) = usedB x := by
    rw [Bool.eq_iff_iff, decide_eq_true_iff, usedB_true]
    constructor
    · intro h2; exact .inr (.inr (by omega))
    · rintro (h2 | h2 | h2)
      · exact absurd h2 hnil
      · exact absurd h2 h1
      · omega
  rw [e]; exact hk _ s1

/-- A table more. -/
def tab (x : Stb) (f : Nat) : Nat := if f = 0 then x.t0 else if f = 1 then x.t1 else x.t2
def setTab (x : Stb) (f v : Nat) : Stb := if f = 0 then { x with t0 := v } else if f = 1 then { x with t1 := v } else { x with t2 := v }
theorem tab_cell {tp f : Nat} (hf : f < 3) (g : isG x.iid) : (stc x tp).toArray[18 + f]? = some (.int .u32 (tab x f)) := by
  obtain ⟨-, -, e18, e19, e20⟩ := stc_get (x := x) (tp := tp) g
  unfold tab
  have : f = 0 ∨ f = 1 ∨ f = 2 := by omega
  rcases this with rfl | rfl | rfl
  · exact e18
  · exact e19
  · exact e20
theorem setTab_cells {tp f v : Nat} (hf : f < 3) (g : isG x.iid) : (stc x tp).toArray.setIfInBounds (18 + f) (.int .u32 v) = (stc (setTab x f v) tp).toArray := by
  have hl : (gvs x.iid).length = 16 := by rw [gvs_len, g.1]
  apply Array.ext'
  simp only [Array.toList_setIfInBounds]
  unfold stc setTab
  have : f = 0 ∨ f = 1 ∨ f = 2 := by omega
  rcases this with rfl | rfl | rfl <;>
  · rw [show ∀ k, 18 + k = (17 + k) + 1 from fun k => by omega, List.set_cons_succ, List.set_append_right _ _ (by omega), hl]
    rfl
theorem StbR.setTab {tp mr f v : Nat} (t : StbR h c i b x n tp mr) (hf : f < 3) (hv : v < 4294967296) : StbR (h.setCell ⟨b, 18 + f, none⟩ (.int .u32 v)) c i b (setTab x f v) n tp mr := by
  have nb := t.bt
  refine ⟨by rw [setCell_blk t.blk, setTab_cells hf t.g], ⟨?_, ?_⟩, t.col, t.ct, t.cm, t.ne, ?_, ?_, ?_, ?_⟩
  · rw [setCell_ne (Ne.symm nb.1)]; exact t.tal.blk
  · unfold Stub.setTab; split <;> (try split) <;> exact t.tal.map.keep (setCell_ne (Ne.symm nb.2))
  · unfold Stub.setTab; split <;> (try split) <;> exact t.g
  · unfold Stub.setTab; split <;> (try split) <;> exact t.tg
  · unfold Stub.setTab; split <;> (try split) <;> exact t.good
  · have := t.tt
    unfold Stub.setTab; split <;> (try split) <;> simp <;> omega

theorem table_spec {f : Nat} (t : StbAt h c i b x n) (w : WF h c) (hf : f < 3) (h0 : tab x f = 4294967295 → K (.int .i64 4) h)
    (h1 : tab x f < 4294967295 → ∀ h', StbAt h' c i b (setTab x f (tab x f + 1)) n → Chg (fun r => r = (2, i)) h c h' c → K (.int .i64 0) h') :
    HC P stub_stub_table.n #[.pointer (some ⟨b, 0, none⟩), .int .u32 (f : Int)] h K := by
  obtain ⟨tp, mr, t⟩ := t
  have ht : tab x f < 4294967296 := by have := t.tt; unfold tab; split <;> (try split) <;> omega
  refine stub_stub_table.hc ?_
  unfold stub_stub_table
  simp only [someD_some, Addr.add_mk, Nat.zero_add, Int.toNat_natCast, Nat.mul_one]
  refine ⟨by omega, by omega, (tab x f : Int), by rw [cell_of t.blk]; exact tab_cell hf t.g, ?_⟩
  generalize hd : ((tab x f : Int) == 4294967295) = d
  refine bcase_intro (fun hc => h0 ?_) fun hc => ?_
  · rw [hc] at hd; have : (tab x f : Int) = 4294967295 := by simpa using hd
    omega
  have hlt : tab x f < 4294967295 := by
    have : tab x f ≠ 4294967295 := fun e => by rw [hc, e] at hd; simp at hd
    omega
  unfold stub_stub_table.k0
  simp only [someD_some, Addr.add_mk, Nat.zero_add, Int.toNat_natCast, Nat.mul_one]
  have wv : IntKind.wrap .u32 ((tab x f : Int) + 1) = ((tab x f + 1 : Nat) : Int) := wrapU32 (by simp) (by omega)
  refine ⟨by omega, by omega, (tab x f : Int), by rw [cell_of t.blk]; exact tab_cell hf t.g, by omega, by omega, ⟨_, by rw [cell_of t.blk]; exact tab_cell hf t.g⟩, frozen_of t.blk, ?_⟩
  rw [wv]
  exact h1 hlt _ ⟨tp, mr, t.setTab hf (by omega)⟩ ((Chg.refl w).set (.inr t.col))
end Go.Den.Stub
end

section
set_option linter.unusedVariables false
set_option maxRecDepth 100000
namespace Go.Den.Stub
open Go Go.Den
variable {h h' : Hp} {c c' : Col} {K : Value → Hp → Prop} {S ox most n : Nat} {sp : List Sp} {fr : List Nat} {L : Nat → Option Stb}

def prR : Rg → Prop := fun r => r.1 = 1 ∨ r.1 = 2 ∨ r.1 = 4

structure PStA (h : Hp) (c : Col) (S ox most : Nat) (sp : List Sp) (fr : List Nat) (L : Nat → Option Stb) (n A : Nat) : Prop where
  blk : h S = some (.cells #[.int .u64 ox, .pointer (some ⟨A, 0, none⟩)] T.stub_Stubs (0, 0))
  col : c S = (4, 0)
  ar : ArAt h c A most sp fr
  has : ∀ i s, sp[i]? = some s → s.t = true → ∃ b x, s.x = some ⟨b, 0, none⟩ ∧ L i = some x ∧ StbAt h c i b x n
  non : ∀ i s, sp[i]? = some s → s.t = false → L i = none
  out : ∀ i, sp.length ≤ i → L i = none
  cap : fr.length ≤ n
def PSt (h : Hp) (c : Col) (S ox most : Nat) (sp : List Sp) (fr : List Nat) (L : Nat → Option Stb) (n : Nat) : Prop := ∃ A, PStA h c S ox most sp fr L n A

theorem PStA.keep {A : Nat} (t : PStA h c S ox most sp fr L n A) (s : Same prR h c h' c') : PStA h' c' S ox most sp fr L n A := by
  obtain ⟨e1, e2⟩ := s S (by rw [t.col]; exact .inr (.inr rfl))
  refine ⟨e1.trans t.blk, e2.trans t.col, t.ar.keep (s.weak fun r e => .inl e), fun i y hy ht => ?_, t.non, t.out, t.cap⟩
  obtain ⟨b, x, g1, g2, g3⟩ := t.has i y hy ht
  exact ⟨b, x, g1, g2, g3.keep (s.weak fun r e => by rw [e]; exact .inr (.inl rfl))⟩
theorem PSt.keep (t : PSt h c S ox most sp fr L n) (s : Same prR h c h' c') : PSt h' c' S ox most sp fr L n := by
  obtain ⟨A, t⟩ := t; exact ⟨A, t.keep s⟩
theorem PStA.read {A : Nat} {o : List Nat} (t : PStA h c S ox most sp fr L n A) (w : WF h c) (s : Step [] h o h') : PStA h' c S ox most sp fr L n A :=
  t.keep ((Chg.of_read (S := fun _ => False) s w).same w fun r hr => ⟨by rintro rfl; rcases hr with h | h | h <;> simp at h, by simp⟩)
theorem PSt.read {o : List Nat} (t : PSt h c S ox most sp fr L n) (w : WF h c) (s : Step [] h o h') : PSt h' c S ox most sp fr L n := by
  obtain ⟨A, t⟩ := t; exact ⟨A, t.read w s⟩
theorem _root_.Go.Den.WF.read {h h' : Hp} {c : Col} {o : List Nat} (w : WF h c) (s : Step [] h o h') : WF h' c := fun k hk => s.dom k (w k hk)
theorem PStA.g {A : Nat} (t : PStA h c S ox most sp fr L n A) : (∀ s ∈ sp, s.g < 4294967296) ∧ sp.length ≤ most ∧ most ≤ 65536 := by
  obtain ⟨sa, sc, fa, fc, cnt, a⟩ := t.ar
  exact ⟨a.g, a.len⟩

/-- The stub of a name. -/
def look (sp : List Sp) (g : List Nat) : Option (Nat × Sp) := if gof (gnum g) = g then fnd sp (gnum g) else none
theorem look_some {g : List Nat} {i : Nat} {s : Sp} (e : look sp g = some (i, s)) : sp[i]? = some s ∧ s.t = true ∧ g = gof (hd i s.g) ∧ gnum g = hd i s.g := by
  unfold look at e
  split at e
  · rename_i hg
    obtain ⟨h1, h2, h3⟩ := fnd_some e
    exact ⟨h1, h2, by rw [← h3]; exact hg.symm, h3⟩
  · cases e
theorem look_gof {i : Nat} {s : Sp} (hs : sp[i]? = some s) (ht : s.t = true) (hi : i < 4294967295) (hg : s.g < 4294967296) : look sp (gof (hd i s.g)) = some (i, s) := by
  have e : gnum (gof (hd i s.g)) = hd i s.g := gof_num (by unfold hd; omega)
  unfold look
  rw [e, if_pos rfl, fnd_hd hs ht hi]

theorem sfind_spec {g : List Nat} (t : PSt h c S ox most sp fr L n) (w : WF h c) (hg : isG g) (h0 : look sp g = none → ∀ h', Step [] h [] h' → K (.tuple #[.pointer none, .int .u64 0, .int .i64 10]) h')
    (h1 : ∀ i s b x, look sp g = some (i, s) → s.x = some ⟨b, 0, none⟩ → L i = some x → ∀ h', Step [] h [] h' → StbAt h' c i b x n → K (.tuple #[.pointer (some ⟨b, 0, none⟩), .int .u64 (hd i s.g : Nat), .int .i64 0]) h') :
    HC P stub_Stubs_find.n #[.pointer (some ⟨S, 0, none⟩), .agg (gcs g)] h K := by
  refine stub_Stubs_find.hc ?_
  unfold stub_Stubs_find
  intro b0 hb0
  have st0 : Step [] h [] (h.put b0 (.cells (gcs g) T.api_Guid (0, 0))) := Step.put (.inr hb0)
  refine ⟨_, cellsAt_blk put_self (by rw [gcs_size, hg.1]), gNumber_spec hg (fun e h2 s2 => ⟨_, _, rfl, bcF rfl ?_⟩) fun e h2 s2 => ⟨_, _, rfl, bcF rfl ?_⟩⟩
  · have st := st0.trans s2
    obtain ⟨A, t⟩ := t
    have t2 := t.read w st
    unfold stub_Stubs_find.k2
    refine bcF rfl ?_
    unfold stub_Stubs_find.k1
    simp only [someD_some, Addr.add_mk, Nat.zero_add]
    refine ⟨_, by rw [cell_of t2.blk]; rfl, Get_spec t2.ar (gnum_lt hg) (fun e2 => ⟨_, _, rfl, ?_⟩) fun i s e2 => ⟨_, _, rfl, ?_⟩⟩
    · unfold stub_Stubs_find.k0
      refine bcT rfl (h0 ?_ _ st)
      unfold look; rw [if_pos e]; exact e2
    · unfold stub_Stubs_find.k0
      obtain ⟨q1, q2, q3⟩ := fnd_some e2
      obtain ⟨b, x, g1, g2, g3⟩ := t2.has i s q1 q2
      refine bcF rfl ?_
      rw [g1, q3]
      exact h1 i s b x (by unfold look; rw [if_pos e]; exact e2) g1 g2 _ st g3
  · unfold stub_Stubs_find.k2
    exact bcT rfl (h0 (by unfold look; rw [if_neg e]) _ (st0.trans s2))

/-! ### The stub of a target -/
theorem of_spec {tgt : Nat} {iid : List Nat} (t : PSt h c S ox most sp fr L n) (w : WF h c) (hg : isG iid) (ht : tgt < 18446744073709551616)
    (h0 : (∀ i s x, sp[i]? = some s → s.t = true → L i = some x → ¬ (x.tgt = tgt ∧ x.iid = iid)) → ∀ h', Step [] h [] h' → K (.tuple #[.pointer none, .int .u64 0]) h')
    (h1 : ∀ i s b x, sp[i]? = some s → s.t = true → s.x = some ⟨b, 0, none⟩ → L i = some x → x.tgt = tgt → x.iid = iid → ∀ h', Step [] h [] h' → K (.tuple #[.pointer (some ⟨b, 0, none⟩), .int .u64 (hd i s.g : Nat)]) h') :
    HC P stub_Stubs_of.n #[.pointer (some ⟨S, 0, none⟩), .int .u64 (tgt : Int), .agg (gcs iid)] h K := by
  obtain ⟨A, t⟩ := t
  refine stub_Stubs_of.hc ?_
  unfold stub_Stubs_of
  intro b0 hb0 b1 hb1 b2 hb2 b3 hb3
  obtain ⟨n32, hb3⟩ := put_none hb3
  obtain ⟨n31, hb3⟩ := put_none hb3
  obtain ⟨n30, hb3⟩ := put_none hb3
  obtain ⟨n21, hb2⟩ := put_none hb2
  obtain ⟨n20, hb2⟩ := put_none hb2
  obtain ⟨n10, hb1⟩ := put_none hb1
  obtain ⟨H0, hH0⟩ : ∃ H0, H0 = (((h.put b0 (.cells #[.int .u64 (tgt : Int)] T.uint64 (0, 0))).put b1 (.cells (gcs iid) T.api_Guid (0, 0))).put b2 (.cells #[.pointer none] T.ptr_stub_stub (0, 0))).put b3 (.cells #[.int .u64 0] T.uint64 (0, 0)) := ⟨_, rfl⟩
  rw [← hH0]
  have e0 : H0 b0 = some (.cells #[.int .u64 (tgt : Int)] T.uint64 (0, 0)) := by rw [hH0, put_ne (Ne.symm n30), put_ne (Ne.symm n20), put_ne (Ne.symm n10), put_self]
  have e1 : H0 b1 = some (.cells (gcs iid) T.api_Guid (0, 0)) := by rw [hH0, put_ne (Ne.symm n31), put_ne (Ne.symm n21), put_self]
  have e2 : H0 b2 = some (.cells #[.pointer none] T.ptr_stub_stub (0, 0)) := by rw [hH0, put_ne (Ne.symm n32), put_self]
  have e3 : H0 b3 = some (.cells #[.int .u64 0] T.uint64 (0, 0)) := by rw [hH0, put_self]
  have st0 : Step [] h [] H0 := by rw [hH0]; exact (((Step.put (.inr hb0)).trans (Step.put (.inr (by rw [put_ne n10]; exact hb1)))).trans (Step.put (.inr (by rw [put_ne n21, put_ne n20]; exact hb2)))).trans (Step.put (.inr (by rw [put_ne n32, put_ne n31, put_ne n30]; exact hb3)))
  have t1 := t.read w st0
  have hgen := t.g
  simp only [someD_some, Addr.add_mk, Nat.zero_add]
  refine ⟨_, by rw [cell_of t1.blk]; rfl, arena_Arena_stub_stub_All.hc fun fb hfb => ⟨_, _, _, rfl, ?_⟩⟩
  unfold stub_Stubs_of.k3
  refine trueD_intro call_AAll_1 fun lb R hl hbody => ?_
  obtain ⟨nlf, hl⟩ := put_none hl
  obtain ⟨H1, hH1⟩ : ∃ H1, H1 = (H0.put fb (.cells #[.pointer (some ⟨A, 0, none⟩)] T.ptr_arena_Arena_ptr_stub_stub (0, 0))).put lb R.ready := ⟨_, rfl⟩
  have nfr : ∀ {k o}, H0 k = some o → k ≠ fb ∧ k ≠ lb := fun {k o} e => ⟨fun e' => (by rw [e', hfb] at e; cases e), fun e' => (by rw [e', hl] at e; cases e)⟩
  have st1 : Step [] h [] H1 := by rw [hH1]; exact (st0.trans (Step.put (.inr hfb))).trans (Step.put (.inr (by rw [put_ne nlf]; exact hl)))
  have lift : ∀ {k o}, H0 k = some o → H1 k = some o := fun {k o} e => by rw [hH1, put_ne (nfr e).2, put_ne (nfr e).1]; exact e
  have l1 : H1 lb = some R.ready := by rw [hH1, put_self]
  have f1 : H1 fb = some (.cells #[.pointer (some ⟨A, 0, none⟩)] T.ptr_arena_Arena_ptr_stub_stub (0, 0)) := by rw [hH1, put_ne (Ne.symm nlf), put_self]
  show HC P arena_Arena_stub_stub_All_1.n #[.func (.yield lb) #[] #[], .pointer (some ⟨fb, 0, none⟩)] _ _
  rw [← hH1]
  have t2 := t.read w st1
  have w2 := w.read st1
  have hlz : h lb = none := Classical.byContradiction fun hne => st0.dom lb hne hl
  have n2l : b2 ≠ lb := (nfr e2).2
  have n3l : b3 ≠ lb := (nfr e3).2
  have n0l : b0 ≠ lb := (nfr e0).2
  have n1l : b1 ≠ lb := (nfr e1).2
  refine AAll_scan (D := [lb, b2, b3]) (I := fun j h' => h' lb = some R.ready ∧ Step [] h [lb, b2, b3] h' ∧ h' b0 = some (.cells #[.int .u64 (tgt : Int)] T.uint64 (0, 0)) ∧ h' b1 = some (.cells (gcs iid) T.api_Guid (0, 0)) ∧
      h' b2 = some (.cells #[.pointer none] T.ptr_stub_stub (0, 0)) ∧ h' b3 = some (.cells #[.int .u64 0] T.uint64 (0, 0)) ∧ (∀ j' i s x, j' < j → (live 0 sp)[j']? = some (i, s) → L i = some x → ¬ (x.tgt = tgt ∧ x.iid = iid)) ∧ ∀ k, H1 k ≠ none → h' k ≠ none)
    t2.ar w2 ?_ (by rw [cell_of f1]; rfl) ?_ ?_ ?_ ?_ ?_
  · intro k hk
    simp at hk
    rcases hk with rfl | rfl | rfl
    · exact ⟨w.fresh hlz, by rw [l1]; simp⟩
    · exact ⟨w.fresh hb2, by rw [lift e2]; simp⟩
    · exact ⟨w.fresh hb3, by rw [lift e3]; simp⟩
  · intro h' s
    refine ⟨s.keepB0 l1, (st1.trans s).weak (by simp) (fun k hk => ?_), s.keepB0 (lift e0), s.keepB0 (lift e1), s.keepB0 (lift e2), s.keepB0 (lift e3), by simp, s.dom⟩
    simp at hk
    rcases hk with rfl | rfl | rfl
    · exact .inr (.inr hlz)
    · exact .inr (.inr hb2)
    · exact .inr (.inr hb3)
  · rintro j h' ⟨-, -, -, -, -, -, -, i8⟩; exact i8
  · rintro j h' b o hb ⟨i1, i2, i3, i4, i5, i6, i7, i8⟩
    have ne : ∀ {k x}, h' k = some x → (h'.put b o) k = some x := fun {k x} e => by rw [put_ne (fun e' => by rw [e', hb] at e; cases e)]; exact e
    exact ⟨ne i1, i2.trans (Step.put (.inr hb)), ne i3, ne i4, ne i5, ne i6, i7, fun k hk => by unfold Hp.put; split <;> simp [i8 k hk]⟩
  · rintro j i s h' hj ⟨i1, i2, i3, i4, i5, i6, i7, i8⟩
    obtain ⟨-, hs, hst⟩ := live_mem.1 (List.mem_of_getElem? hj)
    rw [Nat.sub_zero] at hs
    have t3 := t.read w i2
    obtain ⟨b, x, g1, g2, tp, mr, g3⟩ := t3.has i s hs hst
    have nbl : b ≠ lb := fun e => by have := g3.col; rw [e, w.fresh hlz] at this; cases this
    obtain ⟨e0', -, -, -, -⟩ := stc_get (x := x) (tp := tp) g3.g
    obtain ⟨Ha, hHa⟩ : ∃ Ha, Ha = h'.put lb R.busy := ⟨_, rfl⟩
    have la : ∀ {k o}, k ≠ lb → h' k = some o → Ha k = some o := fun {k o} hne e => by rw [hHa, put_ne hne]; exact e
    have lla : Ha lb = some R.busy := by rw [hHa, put_self]
    have ba := la nbl g3.blk
    rw [g1]
    refine hbody _ _ _ _ i1 ⟨i1, ?_⟩
    rw [← hHa]
    simp only [someD_some, Addr.add_mk, Nat.zero_add]
    -- when it isn't the one
    have nx : ¬ (x.tgt = tgt ∧ x.iid = iid) → (Step [lb, b2, b3] h' [lb, b2, b3] (Ha.put lb R.ready)) ∧ (((Ha.put lb R.ready) lb = some R.ready ∧ Step [] h [lb, b2, b3] (Ha.put lb R.ready) ∧ (Ha.put lb R.ready) b0 = some (.cells #[.int .u64 (tgt : Int)] T.uint64 (0, 0)) ∧ (Ha.put lb R.ready) b1 = some (.cells (gcs iid) T.api_Guid (0, 0)) ∧
        (Ha.put lb R.ready) b2 = some (.cells #[.pointer none] T.ptr_stub_stub (0, 0)) ∧ (Ha.put lb R.ready) b3 = some (.cells #[.int .u64 0] T.uint64 (0, 0)) ∧ (∀ j' i s x, j' < j + 1 → (live 0 sp)[j']? = some (i, s) → L i = some x → ¬ (x.tgt = tgt ∧ x.iid = iid)) ∧ ∀ k, H1 k ≠ none → (Ha.put lb R.ready) k ≠ none)) := by
      intro hno
      have sx : Step [lb, b2, b3] h' [lb, b2, b3] (Ha.put lb R.ready) := by rw [hHa]; exact (Step.put (.inl (by simp))).trans (Step.put (.inl (by simp)))
      have nn : ∀ {k o}, k ≠ lb → h' k = some o → (Ha.put lb R.ready) k = some o := fun {k o} hne e => by rw [put_ne hne]; exact la hne e
      refine ⟨sx, put_self, i2.trans sx, nn n0l i3, nn n1l i4, nn n2l i5, nn n3l i6, fun j' i' s' x' hj' hl' hL' => ?_, fun k hk => sx.dom k (i8 k hk)⟩
      by_cases e : j' = j
      · subst e; rw [hj] at hl'; cases hl'; rw [g2] at hL'; cases hL'; exact hno
      · exact i7 j' i' s' x' (by omega) hl' hL'
    refine ⟨_, by rw [cell_of ba]; exact e0', _, by rw [cell_of (la n0l i3)]; rfl, bcase_intro (fun hc => ?_) fun hc => ?_⟩
    · have hc : x.tgt = tgt := by have : ((x.tgt : Nat) : Int) = (tgt : Int) := by simpa using hc
                                  omega
      unfold stub_Stubs_of.k1
      rw [← hHa]
      simp only [someD_some, Addr.add_mk, Nat.zero_add]
      refine ⟨_, stc_iid ba g3.g, _, cellsAt_blk (la n1l i4) (by rw [gcs_size, hg.1]), intCells_guid g3.g.1, intCells_guid hg.1, ?_⟩
      rw [aggEq_gcs]
      by_cases hi : x.iid = iid
      · refine bcT (by simp [hi]) ?_
        unfold stub_Stubs_of.k0
        rw [← hHa]
        have a2 := la n2l i5
        have a3 := la n3l i6
        refine ⟨⟨_, by rw [cell_of a2]; rfl⟩, frozen_of a2, ?_⟩
        obtain ⟨Hb, hHb⟩ : ∃ Hb, Hb = Ha.setCell ⟨b2, 0, none⟩ (.pointer (some ⟨b, 0, none⟩)) := ⟨_, rfl⟩
        rw [← hHb]
        have m2 : Hb b2 = some (.cells #[.pointer (some ⟨b, 0, none⟩)] T.ptr_stub_stub (0, 0)) := by rw [hHb, setCell_blk a2]; rfl
        have m3 : Hb b3 = some (.cells #[.int .u64 0] T.uint64 (0, 0)) := by rw [hHb, setCell_ne n32]; exact a3
        refine ⟨⟨_, by rw [cell_of m3]; rfl⟩, frozen_of m3, ?_⟩
        obtain ⟨Hc, hHc⟩ : ∃ Hc, Hc = Hb.setCell ⟨b3, 0, none⟩ (.int .u64 (hd i s.g : Nat)) := ⟨_, rfl⟩
        rw [← hHc]
        have p3 : Hc b3 = some (.cells #[.int .u64 (hd i s.g : Nat)] T.uint64 (0, 0)) := by rw [hHc, setCell_blk m3]; rfl
        have p2 : Hc b2 = some (.cells #[.pointer (some ⟨b, 0, none⟩)] T.ptr_stub_stub (0, 0)) := by rw [hHc, setCell_ne (Ne.symm n32)]; exact m2
        have pl : Hc lb = some R.busy := by rw [hHc, setCell_ne (Ne.symm n3l), hHb, setCell_ne (Ne.symm n2l)]; exact lla
        have sx : Step [lb, b2, b3] h' [lb, b2, b3] Hc := by
          rw [hHc, hHb, hHa]
          exact ((Step.put (.inl (by simp))).trans (Step.setCell (by rw [← hHa]; exact a2) (by simp))).trans (Step.setCell (by rw [← hHa, ← hHb]; exact m3) (by simp))
        refine ⟨pl, sx.trans (Step.put (.inl (by simp))), .inr ⟨rfl, ?_⟩⟩
        unfold stub_Stubs_of.k2
        refine .inr (.inl ⟨put_self, _, by rw [put_put, cell_of (by rw [put_ne n2l]; exact p2)]; rfl, _, by rw [put_put, cell_of (by rw [put_ne n3l]; exact p3)]; rfl, ?_⟩)
        refine h1 i s b x hs hst g1 g2 hc hi _ ?_
        rw [put_put]
        exact ((i2.trans sx).trans (Step.put (.inl (by simp)))).forget0
      · refine bcF (by simp [hi]) ?_
        obtain ⟨y1, y2⟩ := nx fun e => hi e.2
        exact ⟨lla, y1, .inl ⟨by trivial, y2⟩⟩
    · obtain ⟨y1, y2⟩ := nx fun e => by rw [e.1] at hc; simp at hc
      exact ⟨lla, y1, .inl ⟨by trivial, y2⟩⟩
  · rintro h' ⟨i1, i2, i3, i4, i5, i6, i7, i8⟩
    unfold stub_Stubs_of.k2
    obtain ⟨Ha, hHa⟩ : ∃ Ha, Ha = h'.put lb R.over := ⟨_, rfl⟩
    rw [← hHa]
    have a2 : Ha b2 = some (.cells #[.pointer none] T.ptr_stub_stub (0, 0)) := by rw [hHa, put_ne n2l]; exact i5
    have a3 : Ha b3 = some (.cells #[.int .u64 0] T.uint64 (0, 0)) := by rw [hHa, put_ne n3l]; exact i6
    obtain ⟨Hb, hHb⟩ : ∃ Hb, Hb = Ha.setCell ⟨b2, 0, none⟩ (.pointer none) := ⟨_, rfl⟩
    have m2 : Hb b2 = some (.cells #[.pointer none] T.ptr_stub_stub (0, 0)) := by rw [hHb, setCell_blk a2]; rfl
    have m3 : Hb b3 = some (.cells #[.int .u64 0] T.uint64 (0, 0)) := by rw [hHb, setCell_ne n32]; exact a3
    obtain ⟨Hc, hHc⟩ : ∃ Hc, Hc = Hb.setCell ⟨b3, 0, none⟩ (.int .u64 0) := ⟨_, rfl⟩
    have p3 : Hc b3 = some (.cells #[.int .u64 0] T.uint64 (0, 0)) := by rw [hHc, setCell_blk m3]; rfl
    have p2 : Hc b2 = some (.cells #[.pointer none] T.ptr_stub_stub (0, 0)) := by rw [hHc, setCell_ne (Ne.symm n32)]; exact m2
    refine .inl ⟨i1, ⟨_, by rw [cell_of a2]; rfl⟩, frozen_of a2, ?_⟩
    rw [← hHb]
    refine ⟨⟨_, by rw [cell_of m3]; rfl⟩, frozen_of m3, ?_⟩
    rw [← hHc]
    refine ⟨_, by rw [cell_of p2]; rfl, _, by rw [cell_of p3]; rfl, h0 (fun i s x hs hst hL => ?_) _ ?_⟩
    · have hm : (i, s) ∈ live 0 sp := live_mem.2 ⟨by omega, by simpa using hs, hst⟩
      obtain ⟨j', hj'⟩ := List.mem_iff_getElem?.1 hm
      exact i7 j' i s x (List.getElem?_eq_some_iff.1 hj').1 hj' hL
    · rw [hHc, hHb, hHa]
      exact ((((i2.trans (Step.put (.inl (by simp)))).trans (Step.setCell (by rw [← hHa]; exact a2) (by simp))).trans (Step.setCell (by rw [← hHa, ← hHb]; exact m3) (by simp)))).forget0
end Go.Den.Stub
end

section
set_option linter.unusedVariables false
set_option maxRecDepth 100000
namespace Go.Den
theorem setCells_mid {h : Hp} {b off : Nat} {T : TypeId} {pre mid post vs : List Value} (hb : h b = some (.cells (pre ++ (mid ++ post)).toArray T (0, 0))) (hp : pre.length = off) (hl : mid.length = vs.length) :
    h.setCells ⟨b, off, none⟩ vs.toArray = h.put b (.cells (pre ++ (vs ++ post)).toArray T (0, 0)) := by
  unfold Hp.setCells
  exact setCellsFrom_split vs mid pre post 0 h hb (by omega) hl
theorem free_mid {h : Hp} {b off n : Nat} {z : Array Value} {T : TypeId} (hb : h b = some (.cells z T (0, 0))) (hn : off + n ≤ z.size) : Free h ⟨b, off, none⟩ n := by
  intro j hj
  rw [Addr.add_mk]
  refine ⟨?_, frozen_of hb⟩
  rw [cell_of hb]
  exact ⟨_, Array.getElem?_eq_getElem (by omega)⟩
end Go.Den
namespace Go.Den.Stub
open Go Go.Den
variable {h h' : Hp} {c c' : Col} {K : Value → Hp → Prop} {S ox most n : Nat} {sp : List Sp} {fr : List Nat} {L : Nat → Option Stb} {i b : Nat} {x : Stb}

/-! ### Objrefs -/
def zg : List Nat := List.replicate 16 0
def ob (fl re ox oid : Nat) (ip ii : List Nat) : List Value := .int .u32 (fl : Int) :: .int .u32 (re : Int) :: .int .u64 (ox : Int) :: .int .u64 (oid : Int) :: (gvs ip ++ gvs ii)
theorem zg_is : isG zg := ⟨by simp [zg], by simp [zg]⟩
theorem zg_eq : gcs zg = zGuid := rfl
theorem ob_zero : (ob 0 0 0 0 zg zg).toArray = zObjref := rfl
theorem ob_len {fl re ox oid : Nat} {ip ii : List Nat} (h1 : isG ip) (h2 : isG ii) : (ob fl re ox oid ip ii).length = 36 := by simp [ob, gvs_len, h1.1, h2.1]
theorem ob_cellish {fl re ox oid : Nat} {ip ii : List Nat} : ∀ v ∈ ob fl re ox oid ip ii, cellish v = true := by
  intro v hv
  simp only [ob, List.mem_cons, List.mem_append] at hv
  rcases hv with rfl | rfl | rfl | rfl | hv | hv
  · rfl
  · rfl
  · rfl
  · rfl
  · exact gvs_cellish v hv
  · exact gvs_cellish v hv
def right (fl re : Nat) : Prop := fl ≤ 2 ∧ (fl = 0 ↔ 0 < re)
theorem Check_spec {fl re ox oid : Nat} {ip ii : List Nat} (h0 : ¬ right fl re → ∀ h', Step [] h [] h' → K (.int .i64 5) h') (h1 : right fl re → ∀ h', Step [] h [] h' → K (.int .i64 0) h') :
    HC P objref_Check.n #[.agg (ob fl re ox oid ip ii).toArray] h K := by
  refine objref_Check.hc ?_
  unfold objref_Check
  intro b0 hb0
  have p0 : (h.put b0 (.cells (ob fl re ox oid ip ii).toArray T.api_Objref (0, 0))) b0 = some (.cells (ob fl re ox oid ip ii).toArray T.api_Objref (0, 0)) := put_self
  have s0 : Step [] h [] (h.put b0 (.cells (ob fl re ox oid ip ii).toArray T.api_Objref (0, 0))) := Step.put (.inr hb0)
  simp only [Addr.add_mk, Nat.zero_add]
  refine ⟨_, by rw [cell_of p0]; rfl, bcase_intro (fun hc => ?_) fun hc => ?_⟩
  · have := of_decide_eq_true hc
    exact h0 (fun r => by have := r.1; omega) _ s0
  have hc := of_decide_eq_false hc
  unfold objref_Check.k2
  simp only [Addr.add_mk, Nat.zero_add]
  refine ⟨_, by rw [cell_of p0]; rfl, _, by rw [cell_of p0]; rfl, bcase_intro (fun hd => ?_) fun hd => ?_⟩
  · refine h0 (fun r => ?_) _ s0
    have := r.2
    have e : ((fl : Int) == 0) = decide ((0 : Int) < (re : Int)) := by
      rw [Bool.eq_iff_iff, decide_eq_true_iff, beq_iff_eq]; omega
    rw [e] at hd; simp at hd
  · refine h1 ⟨by omega, ?_⟩ _ s0
    have e : ((fl : Int) == 0) = decide ((0 : Int) < (re : Int)) := by simpa using hd
    rw [Bool.eq_iff_iff, decide_eq_true_iff, beq_iff_eq] at e
    omega

/-! ### One more -/
def up1 (x : Stb) (fl re : Nat) (k : Int) : Option Stb :=
  if fl = 0 then (if cget x.cn k + re ≤ 4294967295 then some { x with cn := cset x.cn k (cget x.cn k + re) } else none)
  else (if tab x fl < 4294967295 then some (setTab x fl (tab x fl + 1)) else none)

theorem upc_spec {re : Nat} {k : Int} (t : StbAt h c i b x n) (w : WF h c) (hk : cget x.cn k + re ≤ 4294967295 → ∀ h', StbAt h' c i b { x with cn := cset x.cn k (cget x.cn k + re) } (n + 1) → Chg (fun r => r = (2, i)) h c h' c → K (.tuple #[.int .u32 ((cget x.cn k + re : Nat) : Int), .int .i64 0]) h')
    (h0 : 4294967295 < cget x.cn k + re → K (.tuple #[.int .u32 (cget x.cn k : Int), .int .i64 4]) h) :
    ∃ tp, h.cell? ⟨b, 17, none⟩ = some (.pointer (some ⟨tp, 0, none⟩)) ∧ HC P tally_Tally_Up.n #[.pointer (some ⟨tp, 0, none⟩), .int .u64 k, .int .u32 (re : Int)] h K := by
  obtain ⟨tp, mr, t⟩ := t
  obtain ⟨-, e17, -, -, -⟩ := stc_get (x := x) (tp := tp) t.g
  refine ⟨tp, by rw [cell_of t.blk]; exact e17, Up_spec t.tal t.ne (by omega) (t.good.le k) h0 fun hle h' t' s' => ?_⟩
  have nb := t.bt
  have nm : b ∉ [mr] := by simpa using nb.2
  have cg : Chg (fun r => r = (2, i)) h c h' c := Chg.of_same s' w (by simpa using t.cm)
  exact hk hle h' ⟨tp, mr, s'.block t.blk (by simpa using nb.2), t', t.col, t.ct, t.cm, t.ne, t.g, t.tg, t.good.set hle, t.tt⟩ cg
theorem downc_spec {re : Nat} {k : Int} (t : StbAt h c i b x n) (w : WF h c) (hk : re ≤ cget x.cn k → ∀ h', StbAt h' c i b { x with cn := cset x.cn k (cget x.cn k - re) } (n + 1) → Chg (fun r => r = (2, i)) h c h' c → K (.tuple #[.int .u32 ((cget x.cn k - re : Nat) : Int), .int .i64 0]) h')
    (h0 : cget x.cn k < re → K (.tuple #[.int .u32 (cget x.cn k : Int), .int .i64 4]) h) :
    ∃ tp, h.cell? ⟨b, 17, none⟩ = some (.pointer (some ⟨tp, 0, none⟩)) ∧ HC P tally_Tally_Down.n #[.pointer (some ⟨tp, 0, none⟩), .int .u64 k, .int .u32 (re : Int)] h K := by
  obtain ⟨tp, mr, t⟩ := t
  obtain ⟨-, e17, -, -, -⟩ := stc_get (x := x) (tp := tp) t.g
  have hle := t.good.le k
  refine ⟨tp, by rw [cell_of t.blk]; exact e17, Down_spec t.tal t.ne (by omega) h0 fun hre h' t' s' => ?_⟩
  have nb := t.bt
  have cg : Chg (fun r => r = (2, i)) h c h' c := Chg.of_same s' w (by simpa using t.cm)
  exact hk hre h' ⟨tp, mr, s'.block t.blk (by simpa using nb.2), t', t.col, t.ct, t.cm, t.ne, t.g, t.tg, t.good.set (by omega), t.tt⟩ cg

theorem raise8 {fl re : Nat} {k : Int} {b1 b2 : Nat} {p0 : Option Addr} {n6 : Int} (t : StbAt h c i b x n) (w : WF h c) (hfl : fl < 3)
    (h0 : up1 x fl re k = none → stub_Stubs_Export.k5 4 h b1 K p0 n6 b2)
    (h1 : ∀ x', up1 x fl re k = some x' → ∀ h', StbAt h' c i b x' (n + 1) → Chg (fun r => r = (2, i)) h c h' c → stub_Stubs_Export.k5 0 h' b1 K p0 n6 b2) :
    stub_Stubs_Export.k8 (fl : Int) h b k (re : Int) b1 K p0 n6 b2 := by
  unfold stub_Stubs_Export.k8
  refine bcase_intro (fun hc => ?_) fun hc => ?_
  · have hf : fl = 0 := by have : (fl : Int) = 0 := by simpa using hc
                           omega
    unfold stub_Stubs_Export.k6
    simp only [Addr.add_mk, Nat.zero_add]
    have key : ∃ tp, h.cell? ⟨b, 17, none⟩ = some (.pointer (some ⟨tp, 0, none⟩)) ∧ HC P tally_Tally_Up.n #[.pointer (some ⟨tp, 0, none⟩), .int .u64 k, .int .u32 (re : Int)] h (fun v10 h4 => (∃ n8 : Int, (∃ n9 : Int, (v10 = (.tuple #[.int .u32 n8, .int .i64 n9])) ∧ (stub_Stubs_Export.k5 n9 h4 b1 K p0 n6 b2)))) :=
      upc_spec t w (fun hle h' t' s' => ⟨_, _, rfl, h1 _ (by unfold up1; rw [if_pos hf, if_pos hle]) h' t' s'⟩) fun hlt => ⟨_, _, rfl, h0 (by unfold up1; rw [if_pos hf, if_neg (by omega)])⟩
    obtain ⟨tp, e, hh⟩ := key
    exact ⟨_, e, hh⟩
  · have hf : fl ≠ 0 := fun e => by rw [e] at hc; simp at hc
    unfold stub_Stubs_Export.k7
    refine table_spec t w hfl (fun e => ⟨_, rfl, h0 ?_⟩) fun hlt h' t' s' => ⟨_, rfl, h1 _ ?_ h' (t'.up (by omega)) s'⟩
    · unfold up1; rw [if_neg hf, if_neg (by omega)]
    · unfold up1; rw [if_neg hf, if_pos hlt]
theorem raise14 {fl re : Nat} {k : Int} {b1 b2 : Nat} {p0 : Option Addr} {n6 : Int} (t : StbAt h c i b x n) (w : WF h c) (hfl : fl < 3)
    (h0 : up1 x fl re k = none → stub_Stubs_Export.k5 4 h b1 K p0 n6 b2)
    (h1 : ∀ x', up1 x fl re k = some x' → ∀ h', StbAt h' c i b x' (n + 1) → Chg (fun r => r = (2, i)) h c h' c → stub_Stubs_Export.k5 0 h' b1 K p0 n6 b2) :
    stub_Stubs_Export.k14 (fl : Int) (some ⟨b, 0, none⟩) h k (re : Int) b1 K p0 n6 b2 := by
  have := raise8 (b := b) t w hfl h0 h1
  unfold stub_Stubs_Export.k8 at this
  unfold stub_Stubs_Export.k14
  exact this

/-! ### States -/
def setL (L : Nat → Option Stb) (i : Nat) (x : Option Stb) : Nat → Option Stb := fun j => if j = i then x else L j
theorem setL_self {x : Option Stb} : setL L i x i = x := by simp [setL]
theorem setL_ne {x : Option Stb} {j : Nat} (h : j ≠ i) : setL L i x j = L j := by simp [setL, h]
theorem PStA.up {A m : Nat} (t : PStA h c S ox most sp fr L n A) (hm : n ≤ m) : PStA h c S ox most sp fr L m A :=
  ⟨t.blk, t.col, t.ar, fun i s hs ht => by obtain ⟨b, x, g1, g2, g3⟩ := t.has i s hs ht; exact ⟨b, x, g1, g2, g3.up hm⟩, t.non, t.out, by have := t.cap; omega⟩
theorem PSt.up {m : Nat} (t : PSt h c S ox most sp fr L n) (hm : n ≤ m) : PSt h c S ox most sp fr L m := by obtain ⟨A, t⟩ := t; exact ⟨A, t.up hm⟩

/-- One stub changed. -/
theorem PStA.one {A m : Nat} {s : Sp} {x' : Stb} (t : PStA h c S ox most sp fr L n A) (w : WF h c) (hs : sp[i]? = some s) (ht : s.t = true) (hx : s.x = some ⟨b, 0, none⟩) (q : Chg (fun r => r = (2, i)) h c h' c')
    (tb : StbAt h' c' i b x' m) (hm : n ≤ m) : PStA h' c' S ox most sp fr (setL L i (some x')) m A := by
  obtain ⟨e1, e2⟩ := q.same w (Q := fun r => r = (4, 0)) (fun r hr => by rw [hr]; simp) S t.col
  have hi := (List.getElem?_eq_some_iff.1 hs).1
  refine ⟨e1.trans t.blk, e2.trans t.col, t.ar.keep (q.same w fun r hr => ⟨by rintro rfl; simp at hr, by rintro rfl; simp at hr⟩), fun j y hy hyt => ?_, fun j y hy hyt => ?_, fun j hj => ?_, by have := t.cap; omega⟩
  · by_cases e : j = i
    · subst e; rw [hs] at hy; cases hy; exact ⟨b, x', hx, setL_self, tb⟩
    · obtain ⟨b', y', g1, g2, g3⟩ := t.has j y hy hyt
      exact ⟨b', y', g1, by rw [setL_ne e]; exact g2, (g3.keep (q.same w fun r hr => by rw [hr]; simp; exact e)).up hm⟩
  · rw [setL_ne fun e => by subst e; rw [hs] at hy; cases hy; rw [ht] at hyt; cases hyt]
    exact t.non j y hy hyt
  · rw [setL_ne (by omega)]; exact t.out j hj
end Go.Den.Stub
end

section
set_option linter.unusedVariables false
set_option maxRecDepth 100000
namespace Go.Den.Stub
open Go Go.Den
variable {h h' : Hp} {c c' : Col} {K : Value → Hp → Prop} {S ox most n : Nat} {sp : List Sp} {fr : List Nat} {L : Nat → Option Stb} {i b : Nat} {x : Stb}

theorem zcell : ∀ v ∈ (zObjref.toList : List Value), cellish v = true := by
  rw [← ob_zero]; exact ob_cellish
theorem exp_bad {b1 : Nat} {e : Int} (hb : h b1 = some (.cells zObjref T.api_Objref (0, 0))) (hk : K (.tuple #[.agg zObjref, .int .i64 e]) h) : stub_Stubs_Export.k2 h b1 K e := by
  unfold stub_Stubs_Export.k2
  have e1 : h.setCells ⟨b1, 0, none⟩ zObjref = h := by rw [setCells_blk hb rfl, put_id hb]
  refine ⟨trivial, rfl, zcell, free_blk hb rfl, zObjref, ?_, ?_⟩
  · rw [e1]; exact cellsAt_blk hb rfl
  · rw [e1]; exact hk
theorem exp_bad1 {b1 : Nat} (hb : h b1 = some (.cells zObjref T.api_Objref (0, 0))) (hk : K (.tuple #[.agg zObjref, .int .i64 1]) h) : stub_Stubs_Export.k1 h b1 K := by
  have := exp_bad hb hk
  unfold stub_Stubs_Export.k2 at this
  unfold stub_Stubs_Export.k1
  exact this

theorem exp_good {b1 b2 fl re tgt : Nat} {iid : List Nat} {num : Nat} (hg : isG iid) (hn : num < 18446744073709551616) (hb1 : h b1 = some (.cells zObjref T.api_Objref (0, 0))) (hb2 : h b2 = some (.cells (ob fl re 0 tgt zg iid).toArray T.api_Objref (0, 0))) (h12 : b1 ≠ b2)
    {o2 : Value} (hS : h S = some (.cells #[.int .u64 ox, o2] T.stub_Stubs (0, 0)))
    (hk : ∀ h', Step [b1, b2] h [b1, b2] h' → K (.tuple #[.agg (ob fl re ox tgt (gof num) iid).toArray, .int .i64 0]) h') :
    stub_Stubs_Export.k4 (some ⟨S, 0, none⟩) h (num : Int) b2 b1 K := by
  unfold stub_Stubs_Export.k4
  simp only [someD_some, Addr.add_mk, Nat.zero_add]
  refine ⟨_, by rw [cell_of hS]; rfl, gOf_spec hn fun h5 s5 => ⟨_, rfl, ?_⟩⟩
  have q1 := s5.keepB0 hb1
  have q2 := s5.keepB0 hb2
  have qS := s5.keepB0 hS
  unfold stub_Stubs_Export.k3
  simp only [Addr.add_mk, Nat.zero_add]
  refine ⟨⟨_, by rw [cell_of qS]; rfl, rfl⟩, ⟨_, by rw [cell_of q2]; rfl⟩, frozen_of q2, by rw [gcs_size, gof_is.1], gcs_cellish, ?_⟩
  obtain ⟨Ha, hHa⟩ : ∃ Ha, Ha = h5.setCell ⟨b2, 2, none⟩ (.int .u64 (ox : Int)) := ⟨_, rfl⟩
  rw [← hHa]
  have a2 : Ha b2 = some (.cells (ob fl re ox tgt zg iid).toArray T.api_Objref (0, 0)) := by rw [hHa, setCell_blk q2]; simp [ob]
  have a1 : Ha b1 = some (.cells zObjref T.api_Objref (0, 0)) := by rw [hHa, setCell_ne h12]; exact q1
  refine ⟨free_mid a2 (by rw [List.size_toArray, ob_len zg_is hg]; omega), ?_⟩
  have e3 : Ha.setCells ⟨b2, 4, none⟩ (gcs (gof num)) = Ha.put b2 (.cells (ob fl re ox tgt (gof num) iid).toArray T.api_Objref (0, 0)) := by
    unfold gcs
    exact setCells_mid (pre := [.int .u32 (fl : Int), .int .u32 (re : Int), .int .u64 (ox : Int), .int .u64 (tgt : Int)]) (mid := gvs zg) (post := gvs iid) a2 rfl (by rw [gvs_len, gvs_len, zg_is.1, gof_is.1])
  rw [e3]
  obtain ⟨Hb, hHb⟩ : ∃ Hb, Hb = Ha.put b2 (.cells (ob fl re ox tgt (gof num) iid).toArray T.api_Objref (0, 0)) := ⟨_, rfl⟩
  rw [← hHb]
  have c2 : Hb b2 = some (.cells (ob fl re ox tgt (gof num) iid).toArray T.api_Objref (0, 0)) := by rw [hHb, put_self]
  have c1 : Hb b1 = some (.cells zObjref T.api_Objref (0, 0)) := by rw [hHb, put_ne h12]; exact a1
  have sz : (ob fl re ox tgt (gof num) iid).toArray.size = 36 := by rw [List.size_toArray, ob_len gof_is hg]
  refine ⟨_, cellsAt_blk c2 sz, sz, by intro v hv; exact ob_cellish v (by simpa using hv), free_blk c1 rfl, ?_⟩
  have e4 : Hb.setCells ⟨b1, 0, none⟩ (ob fl re ox tgt (gof num) iid).toArray = Hb.put b1 (.cells (ob fl re ox tgt (gof num) iid).toArray T.api_Objref (0, 0)) := setCells_blk c1 (by rw [sz]; rfl)
  rw [e4]
  refine ⟨_, cellsAt_blk put_self sz, hk _ ?_⟩
  have s5' : Step [b1, b2] h [b1, b2] h5 := s5.weak (by simp) fun k hk => .inr (.inl hk)
  have t1 : Step [b1, b2] h5 [b1, b2] Ha := by rw [hHa]; exact Step.setCell q2 (by simp)
  have t2 : Step [b1, b2] Ha [b1, b2] Hb := by rw [hHb]; exact Step.put (.inl (by simp))
  exact ((s5'.trans t1).trans t2).trans (Step.put (.inl (by simp)))
end Go.Den.Stub
end

section
set_option linter.unusedVariables false
set_option maxRecDepth 100000
namespace Go.Den
variable {h0 h h' : Hp} {c0 c c' : Col} {S : Rg → Prop} {Q : Rg → Prop}
theorem Chg.own {o o' : List Nat} (a : Chg S h0 c0 h c) (s : Step o h o' h') (ho : ∀ k ∈ o, h0 k = none) : Chg S h0 c0 h' c :=
  ⟨fun k hk => s.dom k (a.dom k hk), fun k hk hs => by
    obtain ⟨e1, e2⟩ := a.keep k hk hs
    exact ⟨(s.keep k (a.dom k hk) fun hm => hk (ho k hm)).trans e1, e2⟩, fun k hk => s.dom k (a.wf k hk)⟩
theorem Same.own {o o' : List Nat} (s : Step o h o' h') (w : WF h c) (hq : ¬ Q z0) (ho : ∀ k ∈ o, c k = z0) : Same Q h c h' c := fun k hk =>
  ⟨s.keep k (w k fun e => hq (by rwa [← e])) fun hm => hq (by rw [ho k hm] at hk; exact hk), rfl⟩
theorem Same.col {t : Nat} {r : Rg} (hq : ¬ Q (c t)) : Same Q h c h (c.set t r) := fun k hk =>
  ⟨rfl, Col.set_ne fun e => hq (by rw [← e]; exact hk)⟩
theorem Chg.col {t : Nat} {r : Rg} (a : Chg S h0 c0 h c) (ht : h0 t = none) (ht' : h t ≠ none) : Chg S h0 c0 h (c.set t r) :=
  ⟨a.dom, fun k hk hs => by
    obtain ⟨e1, e2⟩ := a.keep k hk hs
    exact ⟨e1, by rw [Col.set_ne fun e => hk (by rw [e]; exact ht)]; exact e2⟩, fun k hk => by
    by_cases e : k = t
    · rw [e]; exact ht'
    · rw [Col.set_ne e] at hk; exact a.wf k hk⟩
theorem WF.col {t : Nat} {r : Rg} (w : WF h c) (ht : h t ≠ none) : WF h (c.set t r) := fun k hk => by
  by_cases e : k = t
  · rw [e]; exact ht
  · rw [Col.set_ne e] at hk; exact w k hk
end Go.Den
namespace Go.Den.Stub
open Go Go.Den
variable {h h' : Hp} {c c' : Col} {K : Value → Hp → Prop} {S ox most n : Nat} {sp : List Sp} {fr : List Nat} {L : Nat → Option Stb} {i b : Nat} {x : Stb}

/-- Where something new is put. -/
def placed (sp : List Sp) (fr : List Nat) (x : Option Addr) (i g : Nat) (sp' : List Sp) (fr' : List Nat) : Prop :=
  (fr = [] ∧ i = sp.length ∧ g = 1 ∧ sp' = sp ++ [⟨x, 1, true⟩] ∧ fr' = []) ∨ (∃ s, fr = fr' ++ [i] ∧ sp[i]? = some s ∧ g = s.g ∧ sp' = sp.set i ⟨x, s.g, true⟩)
theorem placed.at {y : Option Addr} {g : Nat} {sp' : List Sp} {fr' : List Nat} (p : placed sp fr y i g sp' fr') : sp'[i]? = some ⟨y, g, true⟩ := by
  rcases p with ⟨h1, h2, h3, h4, h5⟩ | ⟨s, h1, h2, h3, h4⟩
  · rw [h4, h2, h3]; simp
  · rw [h4, h3, List.getElem?_set]; simp [(List.getElem?_eq_some_iff.1 h2).1]
theorem placed.ne {y : Option Addr} {g j : Nat} {sp' : List Sp} {fr' : List Nat} (p : placed sp fr y i g sp' fr') (hj : j ≠ i) : sp'[j]? = sp[j]? := by
  rcases p with ⟨h1, h2, h3, h4, h5⟩ | ⟨s, h1, h2, h3, h4⟩
  · rw [h4, List.getElem?_append]
    split
    · rfl
    · rw [List.getElem?_eq_none (by simp; omega), List.getElem?_eq_none (by omega)]
  · rw [h4, List.getElem?_set, if_neg (Ne.symm hj)]
theorem placed.len {y : Option Addr} {g : Nat} {sp' : List Sp} {fr' : List Nat} (p : placed sp fr y i g sp' fr') : sp.length ≤ sp'.length ∧ i < sp'.length ∧ fr'.length ≤ fr.length := by
  rcases p with ⟨h1, h2, h3, h4, h5⟩ | ⟨s, h1, h2, h3, h4⟩
  · rw [h4, h5]; simp; omega
  · have := (List.getElem?_eq_some_iff.1 h2).1
    rw [h4, h1]; simp; omega

theorem setL_setL {y z : Option Stb} : setL (setL L i y) i z = setL L i z := by
  funext j; unfold setL; split <;> rfl
theorem PStA.num {A : Nat} {s : Sp} (t : PStA h c S ox most sp fr L n A) (hs : sp[i]? = some s) : hd i s.g < 18446744073709551616 := by
  have hgen := t.g
  have h1 := hgen.1 s (List.mem_of_getElem? hs)
  have h2 := (List.getElem?_eq_some_iff.1 hs).1
  unfold hd; omega
theorem PStA.add {A m g : Nat} {sp' : List Sp} {fr' : List Nat} (t : PStA h c S ox most sp fr L n A) (p : placed sp fr (some ⟨b, 0, none⟩) i g sp' fr') (ar : ArAt h' c' A most sp' fr')
    (q : Same (fun r => r = (4, 0)) h c h' c') (q2 : ∀ j, j ≠ i → Same (fun r => r = (2, j)) h c h' c') (tb : StbAt h' c' i b x m) (hm : n ≤ m) : PStA h' c' S ox most sp' fr' (setL L i (some x)) m A := by
  obtain ⟨e1, e2⟩ := q S t.col
  obtain ⟨l1, l2, l3⟩ := p.len
  refine ⟨e1.trans t.blk, e2.trans t.col, ar, fun j y hy hyt => ?_, fun j y hy hyt => ?_, fun j hj => ?_, by have := t.cap; omega⟩
  · by_cases e : j = i
    · subst e; rw [p.at] at hy; cases hy; exact ⟨b, x, rfl, setL_self, tb⟩
    · rw [p.ne e] at hy
      obtain ⟨b', y', g1, g2, g3⟩ := t.has j y hy hyt
      exact ⟨b', y', g1, by rw [setL_ne e]; exact g2, (g3.keep (q2 j e)).up hm⟩
  · have e : j ≠ i := fun e => by subst e; rw [p.at] at hy; cases hy; cases hyt
    rw [p.ne e] at hy
    rw [setL_ne e]; exact t.non j y hy hyt
  · rw [setL_ne (by omega)]; exact t.out j (by omega)

def stb0 (tgt : Nat) (iid : List Nat) : Stb := ⟨tgt, iid, [], 0, 0, 0⟩
theorem up1_new {tgt fl re : Nat} {iid : List Nat} {k : Int} (hre : re < 4294967296) : up1 (stb0 tgt iid) fl re k ≠ none := by
  unfold up1 stb0
  split
  · rw [if_pos (by simp [cget]; omega)]; simp
  · rw [if_pos (by unfold tab; split <;> (try split) <;> simp)]; simp

theorem Export_spec {tgt fl re : Nat} {k : Int} {iid : List Nat} (t : PSt h c S ox most sp fr L n) (w : WF h c) (hg : isG iid) (ht : tgt < 18446744073709551616) (hre : re < 4294967296)
    (hA : ¬ right fl re → ∀ h', Step [] h [] h' → K (.tuple #[.agg zObjref, .int .i64 1]) h')
    (hB : right fl re → (∀ i s x, sp[i]? = some s → s.t = true → L i = some x → ¬ (x.tgt = tgt ∧ x.iid = iid)) → fr = [] → sp.length = most → ∀ h', Step [] h [] h' → K (.tuple #[.agg zObjref, .int .i64 3]) h')
    (hC : right fl re → (∀ i s x, sp[i]? = some s → s.t = true → L i = some x → ¬ (x.tgt = tgt ∧ x.iid = iid)) → ∀ i b g sp' fr' x', placed sp fr (some ⟨b, 0, none⟩) i g sp' fr' → up1 (stb0 tgt iid) fl re k = some x' →
      ∀ h' c', PSt h' c' S ox most sp' fr' (setL L i (some x')) (n + 1) → Chg prR h c h' c' → K (.tuple #[.agg (ob fl re ox tgt (gof (hd i g)) iid).toArray, .int .i64 0]) h')
    (hD : right fl re → ∀ i s x, sp[i]? = some s → s.t = true → L i = some x → x.tgt = tgt → x.iid = iid → up1 x fl re k = none → ∀ h', Step [] h [] h' → K (.tuple #[.agg zObjref, .int .i64 4]) h')
    (hE : right fl re → ∀ i s x x', sp[i]? = some s → s.t = true → L i = some x → x.tgt = tgt → x.iid = iid → up1 x fl re k = some x' →
      ∀ h' c', PSt h' c' S ox most sp fr (setL L i (some x')) (n + 1) → Chg prR h c h' c' → K (.tuple #[.agg (ob fl re ox tgt (gof (hd i s.g)) iid).toArray, .int .i64 0]) h') :
    HC P stub_Stubs_Export.n #[.pointer (some ⟨S, 0, none⟩), .int .u64 (tgt : Int), .agg (gcs iid), .int .u32 (fl : Int), .int .u32 (re : Int), .int .u64 k] h K := by
  obtain ⟨A, t⟩ := t
  refine stub_Stubs_Export.hc ?_
  unfold stub_Stubs_Export
  intro b0 hb0 b1 hb1
  obtain ⟨n10, hb1⟩ := put_none hb1
  obtain ⟨H1, hH1⟩ : ∃ H1, H1 = (h.put b0 (.cells (gcs iid) T.api_Guid (0, 0))).put b1 (.cells zObjref T.api_Objref (0, 0)) := ⟨_, rfl⟩
  have gsz : (gcs iid).size = 16 := by rw [gcs_size, hg.1]
  refine ⟨gcs iid, cellsAt_blk (by rw [put_ne (Ne.symm n10), put_self]) gsz, ⟨gsz, gcs_cellish, trivial⟩, ?_⟩
  intro b2 hb2
  obtain ⟨n21, hb2⟩ := put_none hb2
  obtain ⟨n20, hb2⟩ := put_none hb2
  have ec : catA (gcs iid) [] = gvs iid := by simp [catA, gcs]
  simp only [ec]
  have eo : (Array.mk ([.int .u32 (fl : Int), .int .u32 (re : Int), .int .u64 0, .int .u64 (tgt : Int)] ++ (gvs zg ++ gvs iid)) : Array Value) = (ob fl re 0 tgt zg iid).toArray := rfl
  refine ⟨by show (Array.mk (ob fl re 0 tgt zg iid)).size = 36; rw [List.size_toArray, ob_len zg_is hg], by show ∀ v ∈ ob fl re 0 tgt zg iid, cellish v = true; exact ob_cellish, free_blk put_self rfl, bcF rfl ?_⟩
  unfold stub_Stubs_Export.k18
  simp only [ec]
  show ∃ cs3 : Array Value, CellsAt ((((h.put b0 (.cells (gcs iid) T.api_Guid (0, 0))).put b1 (.cells zObjref T.api_Objref (0, 0))).put b2 (.cells zObjref T.api_Objref (0, 0))).setCells ⟨b2, 0, none⟩ (ob fl re 0 tgt zg iid).toArray) ⟨b2, 0, none⟩ 36 cs3 ∧
    HC P objref_Check.n #[.agg cs3] ((((h.put b0 (.cells (gcs iid) T.api_Guid (0, 0))).put b1 (.cells zObjref T.api_Objref (0, 0))).put b2 (.cells zObjref T.api_Objref (0, 0))).setCells ⟨b2, 0, none⟩ (ob fl re 0 tgt zg iid).toArray)
      (fun v3 h0 => ∃ n4 : Int, v3 = .int .i64 n4 ∧ stub_Stubs_Export.k17 n4 h0 b1 K b0 (some ⟨S, 0, none⟩) (tgt : Int) (fl : Int) k (re : Int) b2)
  rw [setCells_blk (cs := (ob fl re 0 tgt zg iid).toArray) put_self (by show (36 : Nat) = (ob fl re 0 tgt zg iid).length; exact (ob_len zg_is hg).symm), put_put, ← hH1]
  obtain ⟨H2, hH2⟩ : ∃ H2, H2 = H1.put b2 (.cells (ob fl re 0 tgt zg iid).toArray T.api_Objref (0, 0)) := ⟨_, rfl⟩
  rw [← hH2]
  have q2 : H2 b2 = some (.cells (ob fl re 0 tgt zg iid).toArray T.api_Objref (0, 0)) := by rw [hH2, put_self]
  have q1 : H2 b1 = some (.cells zObjref T.api_Objref (0, 0)) := by rw [hH2, put_ne (Ne.symm n21), hH1, put_self]
  have q0 : H2 b0 = some (.cells (gcs iid) T.api_Guid (0, 0)) := by rw [hH2, put_ne (Ne.symm n20), hH1, put_ne (Ne.symm n10), put_self]
  have st2 : Step [] h [] H2 := by
    rw [hH2, hH1]
    exact ((Step.put (.inr hb0)).trans (Step.put (.inr (by rw [put_ne n10]; exact hb1)))).trans (Step.put (.inr (by rw [put_ne n21, put_ne n20]; exact hb2)))
  refine ⟨_, cellsAt_blk q2 (by rw [List.size_toArray, ob_len zg_is hg]), ?_⟩
  refine Check_spec (fun hr h3 s3 => ⟨_, rfl, ?_⟩) fun hr h3 s3 => ⟨_, rfl, ?_⟩
  · unfold stub_Stubs_Export.k17
    exact bcT rfl (exp_bad1 (s3.keepB0 q1) (hA hr _ (st2.trans s3)))
  have p2 := s3.keepB0 q2
  have p1 := s3.keepB0 q1
  have p0 := s3.keepB0 q0
  have st3 := st2.trans s3
  have t3 := t.read w st3
  have w3 := w.read st3
  unfold stub_Stubs_Export.k17
  refine bcF rfl ?_
  unfold stub_Stubs_Export.k16
  refine ⟨_, cellsAt_blk p0 gsz, ?_⟩
  refine of_spec ⟨A, t3⟩ w3 hg ht (fun hno h4 s4 => ⟨_, _, rfl, ?_⟩) fun i s b x hs hst hsx hL e1 e2 h4 s4 => ⟨_, _, rfl, ?_⟩
  · -- none yet
    unfold stub_Stubs_Export.k15
    refine bcT rfl ?_
    unfold stub_Stubs_Export.k11
    have st4 := st3.trans s4
    refine ⟨_, cellsAt_blk (s4.keepB0 p0) gsz, tNew_spec fun h5 tp mr t5 s5 => ⟨_, rfl, ?_⟩⟩
    unfold stub_Stubs_Export.k10
    refine ⟨⟨_, cellsAt_blk (s5.keepB0 (s4.keepB0 p0)) gsz, rfl⟩, ⟨gsz, gcs_cellish, trivial⟩, ?_⟩
    intro b3 hb3
    show someD (some (⟨S, 0, none⟩ : Addr)) (fun p1 : Addr => ∃ a2 : Option Addr, ((h5.put b3 (.cells (stc (stb0 tgt iid) tp).toArray T.stub_stub (0, 0))).cell? (p1.add 1)) = some (.pointer a2) ∧ HC P arena_Arena_stub_stub_Put.n #[.pointer a2, .pointer (some ⟨b3, 0, none⟩)] (h5.put b3 (.cells (stc (stb0 tgt iid) tp).toArray T.stub_stub (0, 0)))
      (fun v8 h3 => ∃ n6 : Int, ∃ n7 : Int, v8 = .tuple #[.int .u64 n6, .int .i64 n7] ∧ stub_Stubs_Export.k9 n7 h3 b1 K (fl : Int) b3 k (re : Int) (some ⟨S, 0, none⟩) n6 b2))
    obtain ⟨H6, hH6⟩ : ∃ H6, H6 = h5.put b3 (.cells (stc (stb0 tgt iid) tp).toArray T.stub_stub (0, 0)) := ⟨_, rfl⟩
    rw [← hH6]
    simp only [someD_some, Addr.add_mk, Nat.zero_add]
    have st5 : Step [] h [] h5 := st4.trans s5.forget0
    have st6 : Step [] h [] H6 := by rw [hH6]; exact st5.trans (Step.put (.inr hb3))
    have t6 := t.read w st6
    have w6 := w.read st6
    have s46 : Step [] h4 [] H6 := by rw [hH6]; exact s5.forget0.trans (Step.put (.inr hb3))
    have r2 : H6 b2 = _ := s46.keepB0 (s4.keepB0 p2)
    have r1 : H6 b1 = _ := s46.keepB0 (s4.keepB0 p1)
    have r3 : H6 b3 = some (.cells (stc (stb0 tgt iid) tp).toArray T.stub_stub (0, 0)) := by rw [hH6, put_self]
    have b35 : b3 ≠ tp := fun e => by rw [e, t5.blk] at hb3; cases hb3
    obtain ⟨es, cl, em, -⟩ := t5.map
    have b3m : b3 ≠ mr := fun e => by rw [e, em] at hb3; cases hb3
    have ftp : h4 tp = none := by
      rcases s5.own tp (by simp) with hm | hm
      · simp at hm
      · exact hm
    have fmr : h4 mr = none := by
      rcases s5.own mr (by simp) with hm | hm
      · simp at hm
      · exact hm
    have z : ∀ {k}, h k = none → c k = z0 := fun hk => w.fresh hk
    have dn : ∀ {h2 : Hp} {k : Nat}, Step [] h [] h2 → h2 k = none → h k = none := fun {h2 k} s e => Classical.byContradiction fun hn => s.dom k hn e
    have htp : h tp = none := dn st4 ftp
    have hmr : h mr = none := dn st4 fmr
    have h3z : h b3 = none := dn st5 hb3
    have u5 : TAt H6 tp mr 4294967295 [] := by
      rw [hH6]; exact t5.keep (Step.put (o := []) (.inr hb3))
    refine ⟨_, by rw [cell_of t6.blk]; rfl, Put_spec t6.ar w6 (fun e1 e2 => ⟨_, _, rfl, ?_⟩) fun i g sp' fr' h7 c7 hp ar7 q7 => ⟨_, _, rfl, ?_⟩⟩
    · unfold stub_Stubs_Export.k9
      exact bcT rfl (exp_bad r1 (hB hr hno e1 e2 _ st6))
    · unfold stub_Stubs_Export.k9
      refine bcF rfl ?_
      have hp : placed sp fr (some ⟨b3, 0, none⟩) i g sp' fr' := hp
      have hz : ¬ (fun r : Rg => r.1 = 1) z0 := by simp
      obtain ⟨v3, y3⟩ := q7.old hz (z h3z) r3
      obtain ⟨v1, y1⟩ := q7.old hz (z hb1) r1
      obtain ⟨v2, y2⟩ := q7.old hz (z hb2) r2
      obtain ⟨vt, yt⟩ := q7.old hz (z htp) u5.blk
      obtain ⟨es6, cl6, em6, em6'⟩ := u5.map
      obtain ⟨vm, ym⟩ := q7.old hz (z hmr) em6
      obtain ⟨cc, hcc⟩ : ∃ cc : Col, cc = ((c7.set tp (2, i)).set mr (2, i)).set b3 (2, i) := ⟨_, rfl⟩
      have x3 : cc b3 = (2, i) := by rw [hcc, Col.set_self]
      have xm : cc mr = (2, i) := by rw [hcc, Col.set_ne (Ne.symm b3m), Col.set_self]
      have ntm : tp ≠ mr := by rintro rfl; have := u5.blk; rw [em6] at this; cases this
      have xt : cc tp = (2, i) := by rw [hcc, Col.set_ne (Ne.symm b35), Col.set_ne ntm, Col.set_self]
      have sm : ∀ {Q : Rg → Prop}, ¬ Q z0 → Same Q h7 c7 h7 cc := fun {Q} hq => by
        rw [hcc]
        refine (Same.col (by rw [yt]; exact hq)).trans ((Same.col ?_).trans (Same.col ?_))
        · rw [Col.set_ne (Ne.symm ntm), ym]; exact hq
        · rw [Col.set_ne b3m, Col.set_ne b35, y3]; exact hq
      have w7 : WF h7 cc := by
        rw [hcc]
        exact ((q7.wf.col (by rw [vt]; simp)).col (by rw [vm]; simp)).col (by rw [v3]; simp)
      have tb : StbAt h7 cc i b3 (stb0 tgt iid) n := ⟨tp, mr, v3, ⟨vt, es6, cl6, vm, em6'⟩, x3, xt, xm, ntm, hg, ht, Good.nil, by simp [stb0]⟩
      refine raise8 tb w7 (by have := hr.1; omega) (fun e => absurd e (up1_new hre)) fun x' hx' h8 t8 q8 => ?_
      have nz : ∀ {k o}, h4 k = some o → h5 k = some o → cc k = c7 k := fun {k o} e4 e5 => by
        rw [hcc, Col.set_ne fun e => (by rw [e, hb3] at e5; cases e5), Col.set_ne fun e => (by rw [e, fmr] at e4; cases e4), Col.set_ne fun e => (by rw [e, ftp] at e4; cases e4)]
      have z1 : cc b1 = z0 := (nz (s4.keepB0 p1) (s5.keepB0 (s4.keepB0 p1))).trans y1
      have z2 : cc b2 = z0 := (nz (s4.keepB0 p2) (s5.keepB0 (s4.keepB0 p2))).trans y2
      have hz2 : ¬ (fun r : Rg => r = (2, i)) z0 := by simp
      have t7 : PStA h7 cc S ox most sp' fr' (setL L i (some (stb0 tgt iid))) n A :=
        t6.add hp (ar7.keep (sm (by simp))) ((q7.same w6 fun r hr => by rw [hr]; simp).trans (sm (by simp)))
          (fun j hj => (q7.same w6 fun r hr => by rw [hr]; simp).trans (sm (by simp))) tb (by omega)
      have t8' := t7.one w7 hp.at rfl rfl q8 t8 (by omega)
      rw [setL_setL] at t8'
      unfold stub_Stubs_Export.k5
      have hnum : hd i g < 18446744073709551616 := by have e := t8'.num hp.at; exact e
      refine bcF rfl (exp_good (num := hd i g) hg hnum (q8.old hz2 z1 v1).1 (q8.old hz2 z2 v2).1 (Ne.symm n21) t8'.blk fun h9 s9 => ?_)
      have ho : ∀ k ∈ [b1, b2], cc k = z0 := by intro k hk; simp at hk; rcases hk with rfl | rfl; exact z1; exact z2
      refine hC hr hno i b3 g sp' fr' x' hp hx' h9 cc ⟨A, t8'.keep (Same.own s9 q8.wf (by simp [prR]) ho)⟩ ?_
      have k0 : Chg prR h c H6 c := Chg.of_read st6 w
      have k1 : Chg prR h c h7 c7 := k0.trans (q7.weak fun r hr => .inl hr)
      have k2 : Chg prR h c h7 (c7.set tp (2, i)) := k1.col htp (by rw [vt]; simp)
      have k3 : Chg prR h c h7 ((c7.set tp (2, i)).set mr (2, i)) := k2.col hmr (by rw [vm]; simp)
      have k4 : Chg prR h c h7 cc := by rw [hcc]; exact k3.col h3z (by rw [v3]; simp)
      have k5 : Chg prR h c h8 cc := k4.trans (q8.weak fun r hr => .inr (.inl (by rw [hr])))
      refine k5.own s9 ?_
      intro k hk; simp at hk; rcases hk with rfl | rfl; exact hb1; exact hb2
  · -- there is one
    have st4 := st3.trans s4
    have t4 := t.read w st4
    have w4 := w.read st4
    obtain ⟨b', x', g1, g2, g3⟩ := t4.has i s hs hst
    rw [hsx] at g1
    obtain rfl : b = b' := by simpa using g1
    obtain rfl : x = x' := by rw [hL] at g2; exact Option.some.inj g2
    have z : ∀ {k}, h k = none → c k = z0 := fun hk => w.fresh hk
    have hz2 : ¬ (fun r : Rg => r = (2, i)) z0 := by simp
    unfold stub_Stubs_Export.k15
    refine bcF rfl (raise14 g3 w4 (by have := hr.1; omega) (fun e => ?_) fun x' hx' h8 t8 q8 => ?_)
    · unfold stub_Stubs_Export.k5
      exact bcT rfl (exp_bad (s4.keepB0 p1) (hD hr i s x hs hst hL e1 e2 e _ st4))
    · have t8' := t4.one w4 hs hst hsx q8 t8 (by omega)
      unfold stub_Stubs_Export.k5
      refine bcF rfl (exp_good (num := hd i s.g) hg (t8'.num hs) (q8.old hz2 (z hb1) (s4.keepB0 p1)).1 (q8.old hz2 (z hb2) (s4.keepB0 p2)).1 (Ne.symm n21) t8'.blk fun h9 s9 => ?_)
      have ho : ∀ k ∈ [b1, b2], c k = z0 := by intro k hk; simp at hk; rcases hk with rfl | rfl; exact z hb1; exact z hb2
      refine hE hr i s x x' hs hst hL e1 e2 hx' h9 c ⟨A, t8'.keep (Same.own s9 q8.wf (by simp [prR]) ho)⟩ ?_
      refine Chg.own (o' := [b1, b2]) ((Chg.of_read st4 w).trans (q8.weak fun r hr => .inr (.inl (by rw [hr])))) s9 ?_
      intro k hk; simp at hk; rcases hk with rfl | rfl; exact hb1; exact hb2
end Go.Den.Stub
end

section
set_option linter.unusedVariables false
set_option maxRecDepth 100000
namespace Go.Den.Stub
open Go Go.Den
variable {h h' : Hp} {c c' : Col} {K : Value → Hp → Prop} {S ox most n : Nat} {sp : List Sp} {fr : List Nat} {L : Nat → Option Stb} {i b : Nat} {x : Stb}

/-! ### What nobody uses goes -/
noncomputable def swS (sp : List Sp) (i : Nat) (s : Sp) (x : Stb) : List Sp := if usedB x then sp else sp.set i (gone s)
noncomputable def swF (fr : List Nat) (i : Nat) (s : Sp) (x : Stb) : List Nat := if usedB x then fr else fr ++ freed s i
noncomputable def swL (L : Nat → Option Stb) (i : Nat) (x : Stb) : Nat → Option Stb := setL L i (if usedB x then some x else none)

theorem setL_id {y : Option Stb} (h : L i = y) : setL L i y = L := by
  funext j; unfold setL; split
  · next e => rw [e, h]
  · rfl
theorem freed_len {s : Sp} {i : Nat} : (freed s i).length ≤ 1 := by unfold freed; split <;> simp

theorem PStA.dropped {A : Nat} {s : Sp} (t : PStA h c S ox most sp fr L n A) (w : WF h c) (hs : sp[i]? = some s) (ar : ArAt h' c' A most (sp.set i (gone s)) (fr ++ freed s i)) (q : Chg (fun r => r.1 = 1) h c h' c') :
    PStA h' c' S ox most (sp.set i (gone s)) (fr ++ freed s i) (setL L i none) (n + 1) A := by
  obtain ⟨e1, e2⟩ := q.same w (Q := fun r => r = (4, 0)) (fun r hr => by rw [hr]; simp) S t.col
  have hi := (List.getElem?_eq_some_iff.1 hs).1
  have gf : (gone s).t = false := by unfold gone; split <;> rfl
  refine ⟨e1.trans t.blk, e2.trans t.col, ar, fun j y hy hyt => ?_, fun j y hy hyt => ?_, fun j hj => ?_, ?_⟩
  · have e : j ≠ i := fun e => by
      subst e; rw [List.getElem?_set, if_pos rfl, if_pos hi] at hy; cases hy; rw [gf] at hyt; cases hyt
    rw [List.getElem?_set, if_neg (Ne.symm e)] at hy
    obtain ⟨b', y', g1, g2, g3⟩ := t.has j y hy hyt
    exact ⟨b', y', g1, by rw [setL_ne e]; exact g2, (g3.keep (q.same w fun r hr => by rw [hr]; simp)).up (by omega)⟩
  · by_cases e : j = i
    · rw [e, setL_self]
    · rw [List.getElem?_set, if_neg (Ne.symm e)] at hy
      rw [setL_ne e]; exact t.non j y hy hyt
  · rw [List.length_set] at hj
    by_cases e : j = i
    · rw [e, setL_self]
    · rw [setL_ne e]; exact t.out j hj
  · have := t.cap; have := freed_len (s := s) (i := i); simp; omega

theorem sweep_spec {A : Nat} {s : Sp} (t : PStA h c S ox most sp fr L n A) (w : WF h c) (hn : n < 60000) (hs : sp[i]? = some s) (hst : s.t = true) (hx : s.x = some ⟨b, 0, none⟩) (hL : L i = some x)
    (hk : ∀ h' c', PSt h' c' S ox most (swS sp i s x) (swF fr i s x) (swL L i x) (n + 1) → Chg prR h c h' c' → K (.tuple #[]) h') :
    HC P stub_Stubs_sweep.n #[.pointer (some ⟨S, 0, none⟩), .pointer (some ⟨b, 0, none⟩), .int .u64 (hd i s.g : Nat)] h K := by
  obtain ⟨b', x', g1, g2, g3⟩ := t.has i s hs hst
  rw [hx] at g1
  obtain rfl : b = b' := by simpa using g1
  obtain rfl : x = x' := by rw [hL] at g2; exact Option.some.inj g2
  refine stub_Stubs_sweep.hc ?_
  unfold stub_Stubs_sweep
  refine used_spec g3 w (by omega) fun h1 s1 => ⟨_, rfl, ?_⟩
  have t1 := t.read w s1
  have w1 := w.read s1
  unfold stub_Stubs_sweep.k1
  have hi := (List.getElem?_eq_some_iff.1 hs).1
  have hgen := t.g
  refine bcase_intro (fun hc => ?_) fun hc => ?_
  · have hu : usedB x = false := by simpa using hc
    unfold stub_Stubs_sweep.k0
    simp only [someD_some, Addr.add_mk, Nat.zero_add]
    have hf := fnd_hd hs hst (by omega)
    refine ⟨_, by rw [cell_of t1.blk]; rfl, Drop_spec t1.ar w1 (t.num hs) (by have := t.cap; omega) (fun e => ?_) fun i' s' h2 c2 e ar2 q2 => ⟨_, _, rfl, ?_⟩⟩
    · rw [hf] at e; cases e
    · rw [hf] at e; cases e
      refine hk h2 c2 ⟨A, ?_⟩ ((Chg.of_read s1 w).trans (q2.weak fun r hr => .inl hr))
      unfold swS swF swL
      rw [hu]
      exact t1.dropped w1 hs ar2 q2
  · have hu : usedB x = true := by simpa using hc
    refine hk h1 c ⟨A, ?_⟩ (Chg.of_read s1 w)
    unfold swS swF swL
    rw [hu]
    simp only [if_true]
    rw [setL_id hL]
    exact t1.up (by omega)

/-! ### Calls at a name -/
theorem guid_arg {g : List Nat} (hg : isG g) {b0 : Nat} : CellsAt (h.put b0 (.cells (gcs g) T.api_Guid (0, 0))) ⟨b0, 0, none⟩ 16 (gcs g) := cellsAt_blk put_self (by rw [gcs_size, hg.1])

theorem Add_spec {g : List Nat} {k : Int} {re : Nat} (t : PSt h c S ox most sp fr L n) (w : WF h c) (hg : isG g)
    (h0 : look sp g = none → ∀ h', Step [] h [] h' → K (.int .i64 10) h')
    (h1 : ∀ i s x, look sp g = some (i, s) → L i = some x → 4294967295 < cget x.cn k + re → ∀ h', Step [] h [] h' → K (.int .i64 4) h')
    (h2 : ∀ i s x, look sp g = some (i, s) → L i = some x → cget x.cn k + re ≤ 4294967295 → ∀ h' c', PSt h' c' S ox most sp fr (setL L i (some { x with cn := cset x.cn k (cget x.cn k + re) })) (n + 1) → Chg prR h c h' c' → K (.int .i64 0) h') :
    HC P stub_Stubs_Add.n #[.pointer (some ⟨S, 0, none⟩), .agg (gcs g), .int .u64 k, .int .u32 (re : Int)] h K := by
  refine stub_Stubs_Add.hc ?_
  unfold stub_Stubs_Add
  intro b0 hb0
  have st0 : Step [] h [] (h.put b0 (.cells (gcs g) T.api_Guid (0, 0))) := Step.put (.inr hb0)
  refine ⟨_, guid_arg hg, sfind_spec (t.read w st0) (w.read st0) hg (fun e h' s' => ⟨_, _, _, rfl, ?_⟩) fun i s b x e hx hL h' s' tb => ⟨_, _, _, rfl, ?_⟩⟩
  · unfold stub_Stubs_Add.k1
    exact bcF rfl (h0 e _ (st0.trans s'))
  · have st1 := st0.trans s'
    obtain ⟨A, t⟩ := t
    have t1 := t.read w st1
    have w1 := w.read st1
    obtain ⟨q1, q2, q3⟩ := look_some e
    unfold stub_Stubs_Add.k1
    refine bcT rfl ?_
    unfold stub_Stubs_Add.k0
    simp only [someD_some, Addr.add_mk, Nat.zero_add]
    have key : ∃ tp, h'.cell? ⟨b, 17, none⟩ = some (.pointer (some ⟨tp, 0, none⟩)) ∧ HC P tally_Tally_Up.n #[.pointer (some ⟨tp, 0, none⟩), .int .u64 k, .int .u32 (re : Int)] h' (fun v1 h1 => ∃ n4 : Int, ∃ n5 : Int, v1 = .tuple #[.int .u32 n4, .int .i64 n5] ∧ K (.int .i64 n5) h1) :=
      upc_spec tb w1 (fun hle h2' t2 s2 => ⟨_, _, rfl, h2 i s x e hL hle h2' c ⟨A, t1.one w1 q1 q2 hx s2 t2 (by omega)⟩ ((Chg.of_read st1 w).trans (s2.weak fun r hr => .inr (.inl (by rw [hr]))))⟩)
        fun hlt => ⟨_, _, rfl, h1 i s x e hL hlt _ st1⟩
    obtain ⟨tp, ec, hh⟩ := key
    exact ⟨_, ec, hh⟩

def cntOf (sp : List Sp) (L : Nat → Option Stb) (g : List Nat) (k : Int) : Nat := match look sp g with
  | none => 0
  | some (i, _) => match L i with | none => 0 | some x => cget x.cn k
theorem Count_spec {g : List Nat} {k : Int} (t : PSt h c S ox most sp fr L n) (w : WF h c) (hg : isG g)
    (hk : ∀ h', Step [] h [] h' → K (.int .u32 (cntOf sp L g k : Nat)) h') :
    HC P stub_Stubs_Count.n #[.pointer (some ⟨S, 0, none⟩), .agg (gcs g), .int .u64 k] h K := by
  refine stub_Stubs_Count.hc ?_
  unfold stub_Stubs_Count
  intro b0 hb0
  have st0 : Step [] h [] (h.put b0 (.cells (gcs g) T.api_Guid (0, 0))) := Step.put (.inr hb0)
  refine ⟨_, guid_arg hg, sfind_spec (t.read w st0) (w.read st0) hg (fun e h' s' => ⟨_, _, _, rfl, ?_⟩) fun i s b x e hx hL h' s' tb => ⟨_, _, _, rfl, ?_⟩⟩
  · unfold stub_Stubs_Count.k1
    refine bcT rfl ?_
    have := hk _ (st0.trans s')
    unfold cntOf at this; rw [e] at this; exact this
  · obtain ⟨tp, mr, tb⟩ := tb
    obtain ⟨-, e17, -, -, -⟩ := stc_get (x := x) (tp := tp) tb.g
    unfold stub_Stubs_Count.k1
    refine bcF rfl ?_
    unfold stub_Stubs_Count.k0
    simp only [someD_some, Addr.add_mk, Nat.zero_add]
    refine ⟨_, by rw [cell_of tb.blk]; exact e17, Of_spec tb.tal ⟨_, rfl, ?_⟩⟩
    have := hk _ (st0.trans s')
    unfold cntOf at this; rw [e] at this; simp only [hL] at this; exact this
end Go.Den.Stub
end

section
set_option linter.unusedVariables false
set_option maxRecDepth 100000
theorem Go.Den.Step.over {h h1 h2 : Go.Den.Hp} {o o' : List Nat} (s : Go.Den.Step [] h [] h1) (t : Go.Den.Step o h1 o' h2) (ho : ∀ k ∈ o, h k = none) : Go.Den.Step [] h [] h2 :=
  ⟨fun k hk _ => (t.keep k (s.dom k hk) fun hm => hk (ho k hm)).trans (s.keep k hk (by simp)), by simp, fun k hk => t.dom k (s.dom k hk)⟩
namespace Go.Den.Stub
open Go Go.Den
variable {h h' : Hp} {c c' : Col} {K : Value → Hp → Prop} {S ox most n : Nat} {sp : List Sp} {fr : List Nat} {L : Nat → Option Stb} {i b : Nat} {x : Stb}

theorem swL_setL {y : Option Stb} : swL (setL L i y) i x = swL L i x := setL_setL
def dn (x : Stb) (k : Int) (re : Nat) : Stb := { x with cn := cset x.cn k (cget x.cn k - re) }
def upx (x : Stb) (k : Int) (re : Nat) : Stb := { x with cn := cset x.cn k (cget x.cn k + re) }
theorem Release_spec {g : List Nat} {k : Int} {re : Nat} (t : PSt h c S ox most sp fr L n) (w : WF h c) (hn : n < 50000) (hg : isG g) (hu : ∀ i x, L i = some x → used x)
    (h0 : look sp g = none → ∀ h', Step [] h [] h' → K (.int .i64 10) h')
    (h1 : ∀ i s x, look sp g = some (i, s) → L i = some x → cget x.cn k < re → ∀ h' c', PSt h' c' S ox most sp fr L (n + 1) → Chg prR h c h' c' → K (.int .i64 4) h')
    (h2 : ∀ i s x, look sp g = some (i, s) → L i = some x → re ≤ cget x.cn k → ∀ h' c', PSt h' c' S ox most (swS sp i s (dn x k re)) (swF fr i s (dn x k re)) (swL L i (dn x k re)) (n + 2) → Chg prR h c h' c' → K (.int .i64 0) h') :
    HC P stub_Stubs_Release.n #[.pointer (some ⟨S, 0, none⟩), .agg (gcs g), .int .u64 k, .int .u32 (re : Int)] h K := by
  refine stub_Stubs_Release.hc ?_
  unfold stub_Stubs_Release
  intro b0 hb0
  have st0 : Step [] h [] (h.put b0 (.cells (gcs g) T.api_Guid (0, 0))) := Step.put (.inr hb0)
  refine ⟨_, guid_arg hg, sfind_spec (t.read w st0) (w.read st0) hg (fun e h' s' => ⟨_, _, _, rfl, ?_⟩) fun i s b x e hx hL h' s' tb => ⟨_, _, _, rfl, ?_⟩⟩
  · unfold stub_Stubs_Release.k2
    exact bcT rfl (h0 e _ (st0.trans s'))
  · have st1 := st0.trans s'
    obtain ⟨A, t⟩ := t
    have t1 := t.read w st1
    have w1 := w.read st1
    obtain ⟨q1, q2, q3⟩ := look_some e
    unfold stub_Stubs_Release.k2
    refine bcF rfl ?_
    unfold stub_Stubs_Release.k1
    simp only [someD_some, Addr.add_mk, Nat.zero_add]
    have key : ∃ tp, h'.cell? ⟨b, 17, none⟩ = some (.pointer (some ⟨tp, 0, none⟩)) ∧ HC P tally_Tally_Down.n #[.pointer (some ⟨tp, 0, none⟩), .int .u64 k, .int .u32 (re : Int)] h' (fun v1 h1 => ∃ n4 : Int, ∃ n5 : Int, v1 = .tuple #[.int .u32 n4, .int .i64 n5] ∧ stub_Stubs_Release.k0 (some ⟨S, 0, none⟩) (some ⟨b, 0, none⟩) (hd i s.g : Nat) h1 K n5) := by
      refine downc_spec tb w1 (fun hle h2' t2 s2 => ⟨_, _, rfl, ?_⟩) fun hlt => ⟨_, _, rfl, ?_⟩
      · unfold stub_Stubs_Release.k0
        have t3 := t1.one w1 q1 q2 hx s2 t2 (by omega)
        refine sweep_spec (x := dn x k re) t3 s2.wf (by omega) q1 q2 hx setL_self fun h3 c3 t4 q4 => ?_
        rw [swL_setL] at t4
        exact h2 i s x e hL hle h3 c3 t4 (((Chg.of_read st1 w).trans (s2.weak fun r hr => .inr (.inl (by rw [hr])))).trans q4)
      · unfold stub_Stubs_Release.k0
        refine sweep_spec t1 w1 (by omega) q1 q2 hx hL fun h3 c3 t4 q4 => h1 i s x e hL hlt h3 c3 ?_ ((Chg.of_read st1 w).trans q4)
        have := usedB_true.2 (hu i x hL)
        unfold swS swF swL at t4
        rw [this] at t4
        simp only [if_true] at t4
        rwa [setL_id hL] at t4
    obtain ⟨tp, ec, hh⟩ := key
    exact ⟨_, ec, hh⟩

/-- What a move leaves behind. -/
def mv (x : Stb) (k j : Int) (re : Nat) : Stb := upx (dn x k re) j re
theorem Move_spec {g : List Nat} {k j : Int} {re : Nat} (t : PSt h c S ox most sp fr L n) (w : WF h c) (hg : isG g)
    (h0 : look sp g = none → ∀ h', Step [] h [] h' → K (.int .i64 10) h')
    (h1 : ∀ i s x, look sp g = some (i, s) → L i = some x → cget x.cn k < re → ∀ h', Step [] h [] h' → K (.int .i64 4) h')
    (h2 : ∀ i s x, look sp g = some (i, s) → L i = some x → re ≤ cget x.cn k → 4294967295 < cget (dn x k re).cn j + re → ∀ h' c', PSt h' c' S ox most sp fr (setL L i (some (mv x k k re))) (n + 3) → Chg prR h c h' c' → K (.int .i64 4) h')
    (h3 : ∀ i s x, look sp g = some (i, s) → L i = some x → re ≤ cget x.cn k → cget (dn x k re).cn j + re ≤ 4294967295 → ∀ h' c', PSt h' c' S ox most sp fr (setL L i (some (mv x k j re))) (n + 3) → Chg prR h c h' c' → K (.int .i64 0) h') :
    HC P stub_Stubs_Move.n #[.pointer (some ⟨S, 0, none⟩), .agg (gcs g), .int .u64 k, .int .u64 j, .int .u32 (re : Int)] h K := by
  refine stub_Stubs_Move.hc ?_
  unfold stub_Stubs_Move
  intro b0 hb0
  have st0 : Step [] h [] (h.put b0 (.cells (gcs g) T.api_Guid (0, 0))) := Step.put (.inr hb0)
  refine ⟨_, guid_arg hg, sfind_spec (t.read w st0) (w.read st0) hg (fun e h' s' => ⟨_, _, _, rfl, ?_⟩) fun i s b x e hx hL h' s' tb => ⟨_, _, _, rfl, ?_⟩⟩
  · unfold stub_Stubs_Move.k5
    exact bcT rfl (h0 e _ (st0.trans s'))
  · have st1 := st0.trans s'
    obtain ⟨A, t⟩ := t
    have t1 := t.read w st1
    have w1 := w.read st1
    obtain ⟨q1, q2, q3⟩ := look_some e
    unfold stub_Stubs_Move.k5
    refine bcF rfl ?_
    unfold stub_Stubs_Move.k4
    simp only [someD_some, Addr.add_mk, Nat.zero_add]
    have lift : ∀ {h2 : Hp}, Chg (fun r => r = (2, i)) h' c h2 c → Chg prR h c h2 c := fun {h2} s2 => (Chg.of_read st1 w).trans (s2.weak fun r hr => .inr (.inl (by rw [hr])))
    have hgood : (dn x k re).cn = cset x.cn k (cget x.cn k - re) := rfl
    have key : ∃ tp, h'.cell? ⟨b, 17, none⟩ = some (.pointer (some ⟨tp, 0, none⟩)) ∧ HC P tally_Tally_Down.n #[.pointer (some ⟨tp, 0, none⟩), .int .u64 k, .int .u32 (re : Int)] h' (fun v1 h1 => ∃ n5 : Int, ∃ n6 : Int, v1 = .tuple #[.int .u32 n5, .int .i64 n6] ∧ stub_Stubs_Move.k3 n6 K h1 (some ⟨b, 0, none⟩) j (re : Int) k) := by
      refine downc_spec tb w1 (fun hle h2' t2 s2 => ⟨_, _, rfl, ?_⟩) fun hlt => ⟨_, _, rfl, ?_⟩
      · unfold stub_Stubs_Move.k3
        refine bcF rfl ?_
        unfold stub_Stubs_Move.k2
        simp only [someD_some, Addr.add_mk, Nat.zero_add]
        have t2 : StbAt h2' c i b (dn x k re) (n + 1) := t2
        have key2 : ∃ tp, h2'.cell? ⟨b, 17, none⟩ = some (.pointer (some ⟨tp, 0, none⟩)) ∧ HC P tally_Tally_Up.n #[.pointer (some ⟨tp, 0, none⟩), .int .u64 j, .int .u32 (re : Int)] h2' (fun v2 h2 => ∃ n7 : Int, ∃ n8 : Int, v2 = .tuple #[.int .u32 n7, .int .i64 n8] ∧ stub_Stubs_Move.k1 n8 (some ⟨b, 0, none⟩) h2 k (re : Int) K) := by
          refine upc_spec t2 s2.wf (fun hle2 h3' t3 s3 => ⟨_, _, rfl, ?_⟩) fun hlt => ⟨_, _, rfl, ?_⟩
          · unfold stub_Stubs_Move.k1
            refine bcF rfl ?_
            have s13 := s2.trans s3
            exact h3 i s x e hL hle hle2 h3' c ⟨A, t1.one w1 q1 q2 hx s13 (t3.up (by omega)) (by omega)⟩ (lift s13)
          · unfold stub_Stubs_Move.k1
            refine bcT rfl ?_
            unfold stub_Stubs_Move.k0
            simp only [someD_some, Addr.add_mk, Nat.zero_add]
            have key3 : ∃ tp, h2'.cell? ⟨b, 17, none⟩ = some (.pointer (some ⟨tp, 0, none⟩)) ∧ HC P tally_Tally_Up.n #[.pointer (some ⟨tp, 0, none⟩), .int .u64 k, .int .u32 (re : Int)] h2' (fun v3 h3 => ∃ n9 : Int, ∃ n10 : Int, v3 = .tuple #[.int .u32 n9, .int .i64 n10] ∧ K (.int .i64 4) h3) := by
              refine upc_spec t2 s2.wf (fun hle2 h3' t3 s3 => ⟨_, _, rfl, ?_⟩) fun hlt2 => ⟨_, _, rfl, ?_⟩
              · have s13 := s2.trans s3
                exact h2 i s x e hL hle hlt h3' c ⟨A, t1.one w1 q1 q2 hx s13 (t3.up (by omega)) (by omega)⟩ (lift s13)
              · exfalso
                obtain ⟨_, _, tb⟩ := tb
                have := tb.good.le k
                rw [hgood, tb.good.cget_set, if_pos rfl] at hlt2
                omega
            obtain ⟨tp, ec, hh⟩ := key3
            exact ⟨_, ec, hh⟩
        obtain ⟨tp, ec, hh⟩ := key2
        exact ⟨_, ec, hh⟩
      · unfold stub_Stubs_Move.k3
        exact bcT rfl (h1 i s x e hL hlt _ st1)
    obtain ⟨tp, ec, hh⟩ := key
    exact ⟨_, ec, hh⟩

theorem Untable_spec {g : List Nat} {fl : Nat} (t : PSt h c S ox most sp fr L n) (w : WF h c) (hn : n < 50000) (hg : isG g)
    (h0 : look sp g = none → ∀ h', Step [] h [] h' → K (.int .i64 10) h')
    (h1 : ∀ i s x, look sp g = some (i, s) → L i = some x → fl ≠ 1 → fl ≠ 2 → ∀ h', Step [] h [] h' → K (.int .i64 1) h')
    (h2 : ∀ i s x, look sp g = some (i, s) → L i = some x → fl = 1 ∨ fl = 2 → tab x fl = 0 → ∀ h', Step [] h [] h' → K (.int .i64 4) h')
    (h3 : ∀ i s x, look sp g = some (i, s) → L i = some x → fl = 1 ∨ fl = 2 → 0 < tab x fl → ∀ h' c', PSt h' c' S ox most (swS sp i s (setTab x fl (tab x fl - 1))) (swF fr i s (setTab x fl (tab x fl - 1))) (swL L i (setTab x fl (tab x fl - 1))) (n + 1) → Chg prR h c h' c' → K (.int .i64 0) h') :
    HC P stub_Stubs_Untable.n #[.pointer (some ⟨S, 0, none⟩), .agg (gcs g), .int .u32 (fl : Int)] h K := by
  refine stub_Stubs_Untable.hc ?_
  unfold stub_Stubs_Untable
  intro b0 hb0
  have st0 : Step [] h [] (h.put b0 (.cells (gcs g) T.api_Guid (0, 0))) := Step.put (.inr hb0)
  refine ⟨_, guid_arg hg, sfind_spec (t.read w st0) (w.read st0) hg (fun e h' s' => ⟨_, _, _, rfl, ?_⟩) fun i s b x e hx hL h' s' tb => ⟨_, _, _, rfl, ?_⟩⟩
  · unfold stub_Stubs_Untable.k4
    exact bcT rfl (h0 e _ (st0.trans s'))
  · have st1 := st0.trans s'
    obtain ⟨A, t⟩ := t
    have t1 := t.read w st1
    have w1 := w.read st1
    obtain ⟨q1, q2, q3⟩ := look_some e
    unfold stub_Stubs_Untable.k4
    refine bcF rfl ?_
    have core : fl = 1 ∨ fl = 2 → stub_Stubs_Untable.k1 (some ⟨b, 0, none⟩) (fl : Int) h' K (some ⟨S, 0, none⟩) (hd i s.g : Nat) := by
      intro hf
      obtain ⟨tp, mr, tb⟩ := tb
      have ht : tab x fl < 4294967296 := by have := tb.tt; unfold tab; split <;> (try split) <;> omega
      have ec : h'.cell? ⟨b, 18 + fl, none⟩ = some (.int .u32 (tab x fl)) := by rw [cell_of tb.blk]; exact tab_cell (by omega) tb.g
      unfold stub_Stubs_Untable.k1
      simp only [someD_some, Addr.add_mk, Nat.zero_add, Int.toNat_natCast, Nat.mul_one]
      refine ⟨by omega, by omega, _, ec, bcase_intro (fun hc => ?_) fun hc => ?_⟩
      · have : (tab x fl : Int) = 0 := by simpa using hc
        exact h2 i s x e hL hf (by omega) _ st1
      · have hpos : tab x fl ≠ 0 := fun e => by rw [e] at hc; simp at hc
        unfold stub_Stubs_Untable.k0
        simp only [someD_some, Addr.add_mk, Nat.zero_add, Int.toNat_natCast, Nat.mul_one]
        have wv : IntKind.wrap .u32 ((tab x fl : Int) - 1) = ((tab x fl - 1 : Nat) : Int) := wrapU32 (by omega) (by omega)
        refine ⟨by omega, by omega, _, ec, by omega, by omega, ⟨_, ec⟩, frozen_of tb.blk, ?_⟩
        rw [wv]
        have s2 : Chg (fun r => r = (2, i)) h' c (h'.setCell ⟨b, 18 + fl, none⟩ (.int .u32 (tab x fl - 1 : Nat))) c := (Chg.refl w1).set (.inr tb.col)
        have t2 : StbAt (h'.setCell ⟨b, 18 + fl, none⟩ (.int .u32 (tab x fl - 1 : Nat))) c i b (setTab x fl (tab x fl - 1)) n := ⟨tp, mr, tb.setTab (by omega) (by omega)⟩
        have t3 := t1.one w1 q1 q2 hx s2 t2 (Nat.le_refl n)
        refine sweep_spec t3 s2.wf (by omega) q1 q2 hx setL_self fun h3' c3 t4 q4 => ?_
        rw [swL_setL] at t4
        exact h3 i s x e hL hf (by omega) h3' c3 t4 (((Chg.of_read st1 w).trans (s2.weak fun r hr => .inr (.inl (by rw [hr])))).trans q4)
    unfold stub_Stubs_Untable.k3
    refine bcase_intro (fun hc => ?_) fun hc => ?_
    · have h1' : fl ≠ 1 := fun e => by rw [e] at hc; simp at hc
      unfold stub_Stubs_Untable.k2
      refine bcase_intro (fun hd' => ?_) fun hd' => ?_
      · exact h1 i s x e hL h1' (fun e => by rw [e] at hd'; simp at hd') _ st1
      · have : (fl : Int) = 2 := by simpa using hd'
        exact core (.inr (by omega))
    · have : (fl : Int) = 1 := by simpa using hc
      exact core (.inl (by omega))

theorem Find_spec {g : List Nat} (t : PSt h c S ox most sp fr L n) (w : WF h c) (hg : isG g)
    (h0 : look sp g = none → ∀ h', Step [] h [] h' → K (.tuple #[.int .u64 0, .agg zGuid, .int .i64 10]) h')
    (h1 : ∀ i s x, look sp g = some (i, s) → L i = some x → ∀ h', Step [] h [] h' → K (.tuple #[.int .u64 (x.tgt : Nat), .agg (gcs x.iid), .int .i64 0]) h') :
    HC P stub_Stubs_Find.n #[.pointer (some ⟨S, 0, none⟩), .agg (gcs g)] h K := by
  refine stub_Stubs_Find.hc ?_
  unfold stub_Stubs_Find
  intro b0 hb0 b1 hb1
  obtain ⟨n10, hb1⟩ := put_none hb1
  obtain ⟨H1, hH1⟩ : ∃ H1, H1 = (h.put b0 (.cells (gcs g) T.api_Guid (0, 0))).put b1 (.cells zGuid T.api_Guid (0, 0)) := ⟨_, rfl⟩
  rw [← hH1]
  have p1 : H1 b1 = some (.cells zGuid T.api_Guid (0, 0)) := by rw [hH1, put_self]
  have p0 : H1 b0 = some (.cells (gcs g) T.api_Guid (0, 0)) := by rw [hH1, put_ne (Ne.symm n10), put_self]
  have st : Step [] h [] H1 := by rw [hH1]; exact (Step.put (.inr hb0)).trans (Step.put (.inr (by rw [put_ne n10]; exact hb1)))
  refine ⟨_, cellsAt_blk p0 (by rw [gcs_size, hg.1]), sfind_spec (t.read w st) (w.read st) hg (fun e h' s' => ⟨_, _, _, rfl, ?_⟩) fun i s b x e hx hL h' s' tb => ⟨_, _, _, rfl, ?_⟩⟩
  · unfold stub_Stubs_Find.k2
    refine bcT rfl ?_
    have q1 := s'.keepB0 p1
    unfold stub_Stubs_Find.k0
    have e1 : h'.setCells ⟨b1, 0, none⟩ zGuid = h' := by rw [setCells_blk q1 rfl, put_id q1]
    refine ⟨trivial, rfl, by intro v hv; simp at hv; subst hv; rfl, free_blk q1 rfl, zGuid, ?_, ?_⟩
    · rw [e1]; exact cellsAt_blk q1 rfl
    · rw [e1]; exact h0 e _ (st.trans s')
  · have q1 := s'.keepB0 p1
    obtain ⟨tp, mr, tb⟩ := tb
    obtain ⟨e0, -, -, -, -⟩ := stc_get (x := x) (tp := tp) tb.g
    have sz : (gcs x.iid).size = 16 := by rw [gcs_size, tb.g.1]
    unfold stub_Stubs_Find.k2
    refine bcF rfl ?_
    unfold stub_Stubs_Find.k1
    simp only [someD_some, Addr.add_mk, Nat.zero_add]
    refine ⟨_, by rw [cell_of tb.blk]; exact e0, _, stc_iid tb.blk tb.g, sz, gcs_cellish, free_blk q1 rfl, ?_⟩
    rw [setCells_blk q1 (by rw [sz]; rfl)]
    refine ⟨_, cellsAt_blk put_self sz, h1 i s x e hL _ ?_⟩
    exact (st.trans s').over (Step.put (o := [b1]) (.inl (by simp))) (by simpa using hb1)
end Go.Den.Stub
end

section
set_option linter.unusedVariables false
set_option maxRecDepth 100000
namespace Go.Den.Stub
open Go Go.Den
variable {h h' : Hp} {c c' : Col} {K : Value → Hp → Prop} {S ox most n : Nat} {sp : List Sp} {fr : List Nat} {L : Nat → Option Stb} {i b : Nat} {x : Stb}

def held (L : Nat → Option Stb) (tgt : Nat) : Prop := ∃ i x, L i = some x ∧ x.tgt = tgt ∧ (x.cn ≠ [] ∨ 0 < x.t1)
noncomputable def heldB (L : Nat → Option Stb) (tgt : Nat) : Bool := @decide (held L tgt) (Classical.propDecidable _)
theorem heldB_true {tgt : Nat} : heldB L tgt = true ↔ held L tgt := by unfold heldB; simp
theorem heldB_false {tgt : Nat} : heldB L tgt = false ↔ ¬ held L tgt := by unfold heldB; simp

theorem Held_spec {tgt : Nat} (t : PSt h c S ox most sp fr L n) (w : WF h c) (hn : n < 50000) (hk : ∀ h', Step [] h [] h' → K (.bool (heldB L tgt)) h') :
    HC P stub_Stubs_Held.n #[.pointer (some ⟨S, 0, none⟩), .int .u64 (tgt : Int)] h K := by
  obtain ⟨A, t⟩ := t
  refine stub_Stubs_Held.hc ?_
  unfold stub_Stubs_Held
  intro b0 hb0 b1 hb1
  obtain ⟨n10, hb1⟩ := put_none hb1
  refine bcF rfl ?_
  unfold stub_Stubs_Held.k7
  obtain ⟨H0, hH0⟩ : ∃ H0, H0 = (h.put b0 (.cells #[.int .u64 (tgt : Int)] T.uint64 (0, 0))).put b1 (.cells #[.bool false] T.bool (0, 0)) := ⟨_, rfl⟩
  rw [← hH0]
  have e0 : H0 b0 = some (.cells #[.int .u64 (tgt : Int)] T.uint64 (0, 0)) := by rw [hH0, put_ne (Ne.symm n10), put_self]
  have e1 : H0 b1 = some (.cells #[.bool false] T.bool (0, 0)) := by rw [hH0, put_self]
  have st0 : Step [] h [] H0 := by rw [hH0]; exact (Step.put (.inr hb0)).trans (Step.put (.inr (by rw [put_ne n10]; exact hb1)))
  have t1 := t.read w st0
  have hgen := t.g
  simp only [someD_some, Addr.add_mk, Nat.zero_add]
  refine ⟨_, by rw [cell_of t1.blk]; rfl, arena_Arena_stub_stub_All.hc fun fb hfb => ⟨_, _, _, rfl, ?_⟩⟩
  unfold stub_Stubs_Held.k6
  refine trueD_intro call_AAll_1 fun lb R hl hbody => ?_
  obtain ⟨nlf, hl⟩ := put_none hl
  obtain ⟨H1, hH1⟩ : ∃ H1, H1 = (H0.put fb (.cells #[.pointer (some ⟨A, 0, none⟩)] T.ptr_arena_Arena_ptr_stub_stub (0, 0))).put lb R.ready := ⟨_, rfl⟩
  have nfr : ∀ {k o}, H0 k = some o → k ≠ fb ∧ k ≠ lb := fun {k o} e => ⟨fun e' => (by rw [e', hfb] at e; cases e), fun e' => (by rw [e', hl] at e; cases e)⟩
  have st1 : Step [] h [] H1 := by rw [hH1]; exact (st0.trans (Step.put (.inr hfb))).trans (Step.put (.inr (by rw [put_ne nlf]; exact hl)))
  have lift : ∀ {k o}, H0 k = some o → H1 k = some o := fun {k o} e => by rw [hH1, put_ne (nfr e).2, put_ne (nfr e).1]; exact e
  have l1 : H1 lb = some R.ready := by rw [hH1, put_self]
  have f1 : H1 fb = some (.cells #[.pointer (some ⟨A, 0, none⟩)] T.ptr_arena_Arena_ptr_stub_stub (0, 0)) := by rw [hH1, put_ne (Ne.symm nlf), put_self]
  show HC P arena_Arena_stub_stub_All_1.n #[.func (.yield lb) #[] #[], .pointer (some ⟨fb, 0, none⟩)] _ _
  rw [← hH1]
  have t2 := t.read w st1
  have w2 := w.read st1
  have hlz : h lb = none := Classical.byContradiction fun hne => st0.dom lb hne hl
  have n1l : b1 ≠ lb := (nfr e1).2
  have n0l : b0 ≠ lb := (nfr e0).2
  let no (j : Nat) : Prop := ∀ j' i s x, j' < j → (live 0 sp)[j']? = some (i, s) → L i = some x → ¬ (x.tgt = tgt ∧ (x.cn ≠ [] ∨ 0 < x.t1))
  refine AAll_scan (D := [lb, b1]) (I := fun j h' => h' lb = some R.ready ∧ Step [] h [lb, b1] h' ∧ h' b0 = some (.cells #[.int .u64 (tgt : Int)] T.uint64 (0, 0)) ∧ h' b1 = some (.cells #[.bool false] T.bool (0, 0)) ∧ no j ∧ ∀ k, H1 k ≠ none → h' k ≠ none)
    t2.ar w2 ?_ (by rw [cell_of f1]; rfl) ?_ ?_ ?_ ?_ ?_
  · intro k hk
    simp at hk
    rcases hk with rfl | rfl
    · exact ⟨w.fresh hlz, by rw [l1]; simp⟩
    · exact ⟨w.fresh hb1, by rw [lift e1]; simp⟩
  · intro h' s
    refine ⟨s.keepB0 l1, (st1.trans s).weak (by simp) (fun k hk => ?_), s.keepB0 (lift e0), s.keepB0 (lift e1), fun j' _ _ _ hj => absurd hj (by omega), s.dom⟩
    simp at hk
    rcases hk with rfl | rfl
    · exact .inr (.inr hlz)
    · exact .inr (.inr hb1)
  · rintro j h' ⟨-, -, -, -, -, i8⟩; exact i8
  · rintro j h' b o hb ⟨i1, i2, i3, i4, i7, i8⟩
    have ne : ∀ {k x}, h' k = some x → (h'.put b o) k = some x := fun {k x} e => by rw [put_ne (fun e' => by rw [e', hb] at e; cases e)]; exact e
    exact ⟨ne i1, i2.trans (Step.put (.inr hb)), ne i3, ne i4, i7, fun k hk => by unfold Hp.put; split <;> simp [i8 k hk]⟩
  · rintro j i s h' hj ⟨i1, i2, i3, i4, i7, i8⟩
    obtain ⟨-, hs, hst⟩ := live_mem.1 (List.mem_of_getElem? hj)
    rw [Nat.sub_zero] at hs
    have t3 := t.read w i2
    obtain ⟨b, x, g1, g2, tp, mr, g3⟩ := t3.has i s hs hst
    have nbl : b ≠ lb := fun e => by have := g3.col; rw [e, w.fresh hlz] at this; cases this
    have ntl : tp ≠ lb := fun e => by have := g3.ct; rw [e, w.fresh hlz] at this; cases this
    have nml : mr ≠ lb := fun e => by have := g3.cm; rw [e, w.fresh hlz] at this; cases this
    obtain ⟨e0', e17, e18, e19, e20⟩ := stc_get (x := x) (tp := tp) g3.g
    obtain ⟨Ha, hHa⟩ : ∃ Ha, Ha = h'.put lb R.busy := ⟨_, rfl⟩
    have la : ∀ {k o}, k ≠ lb → h' k = some o → Ha k = some o := fun {k o} hne e => by rw [hHa, put_ne hne]; exact e
    have lla : Ha lb = some R.busy := by rw [hHa, put_self]
    have ba := la nbl g3.blk
    rw [g1]
    refine hbody _ _ _ _ i1 ⟨i1, ?_⟩
    rw [← hHa]
    simp only [someD_some, Addr.add_mk, Nat.zero_add]
    -- when it isn't the one
    have nx : ¬ (x.tgt = tgt ∧ (x.cn ≠ [] ∨ 0 < x.t1)) → ∀ Hx, Step [] Ha [] Hx → (Step [lb, b1] h' [lb, b1] (Hx.put lb R.ready)) ∧ ((Hx.put lb R.ready) lb = some R.ready ∧ Step [] h [lb, b1] (Hx.put lb R.ready) ∧ (Hx.put lb R.ready) b0 = some (.cells #[.int .u64 (tgt : Int)] T.uint64 (0, 0)) ∧ (Hx.put lb R.ready) b1 = some (.cells #[.bool false] T.bool (0, 0)) ∧
        no (j + 1) ∧ ∀ k, H1 k ≠ none → (Hx.put lb R.ready) k ≠ none) := by
      intro hno Hx sHx
      have sHx' : Step [lb, b1] Ha [lb, b1] Hx := sHx.weak (by simp) fun k hk => .inr (.inl hk)
      have sa : Step [lb, b1] h' [lb, b1] Ha := by rw [hHa]; exact Step.put (.inl (by simp))
      have sx : Step [lb, b1] h' [lb, b1] (Hx.put lb R.ready) := (sa.trans sHx').trans (Step.put (.inl (by simp)))
      have nn : ∀ {k o}, k ≠ lb → h' k = some o → (Hx.put lb R.ready) k = some o := fun {k o} hne e => by rw [put_ne hne]; exact sHx.keepB0 (la hne e)
      refine ⟨sx, put_self, i2.trans sx, nn n0l i3, nn n1l i4, fun j' i' s' x' hj' hl' hL' => ?_, fun k hk => sx.dom k (i8 k hk)⟩
      by_cases e : j' = j
      · subst e; rw [hj] at hl'; cases hl'; rw [g2] at hL'; cases hL'; exact hno
      · exact i7 j' i' s' x' (by omega) hl' hL'
    have yes : x.tgt = tgt → (x.cn ≠ [] ∨ 0 < x.t1) → ∀ Hx, Step [] Ha [] Hx → stub_Stubs_Held.k1 Hx b1 lb R (fun v h'' => Step [lb, b1] h' [lb, b1] h'' ∧ ((v = .bool true ∧ (h'' lb = some R.ready ∧ Step [] h [lb, b1] h'' ∧ h'' b0 = some (.cells #[.int .u64 (tgt : Int)] T.uint64 (0, 0)) ∧ h'' b1 = some (.cells #[.bool false] T.bool (0, 0)) ∧ no (j + 1) ∧ ∀ k, H1 k ≠ none → h'' k ≠ none)) ∨ (v = .bool false ∧ stub_Stubs_Held.k5 h'' lb R b1 K))) := by
      intro ht hu Hx sHx
      have sHx' : Step [lb, b1] Ha [lb, b1] Hx := sHx.weak (by simp) fun k hk => .inr (.inl hk)
      have sa : Step [lb, b1] h' [lb, b1] Ha := by rw [hHa]; exact Step.put (.inl (by simp))
      have x1 := sHx.keepB0 (la n1l i4)
      have xl := sHx.keepB0 lla
      unfold stub_Stubs_Held.k1
      refine ⟨⟨_, by rw [cell_of x1]; rfl⟩, frozen_of x1, by rw [setCell_ne (Ne.symm n1l)]; exact xl, ?_⟩
      obtain ⟨Hy, hHy⟩ : ∃ Hy, Hy = Hx.setCell ⟨b1, 0, none⟩ (.bool true) := ⟨_, rfl⟩
      rw [← hHy]
      have y1 : Hy b1 = some (.cells #[.bool true] T.bool (0, 0)) := by rw [hHy, setCell_blk x1]; rfl
      have sy : Step [lb, b1] Hx [lb, b1] Hy := by rw [hHy]; exact Step.setCell x1 (by simp)
      have sx := (sa.trans sHx').trans sy
      refine ⟨sx.trans (Step.put (.inl (by simp))), .inr ⟨rfl, ?_⟩⟩
      unfold stub_Stubs_Held.k5
      refine .inr (.inl ⟨put_self, true, by rw [put_put, cell_of (by rw [put_ne n1l]; exact y1)]; rfl, ?_⟩)
      have hh : heldB L tgt = true := heldB_true.2 ⟨i, x, g2, ht, hu⟩
      rw [← hh, put_put]
      exact hk _ ((i2.trans sx).trans (Step.put (.inl (by simp)))).forget0
    refine ⟨_, by rw [cell_of ba]; exact e0', _, by rw [cell_of (la n0l i3)]; rfl, bcase_intro (fun hc => ?_) fun hc => ?_⟩
    · have hc : x.tgt = tgt := by have : ((x.tgt : Nat) : Int) = (tgt : Int) := by simpa using hc
                                  omega
      unfold stub_Stubs_Held.k4
      simp only [someD_some, Addr.add_mk, Nat.zero_add]
      rw [← hHa]
      have tla : TAt Ha tp mr 4294967295 x.cn := ⟨la ntl g3.tal.blk, g3.tal.map.keep (by rw [hHa, put_ne nml])⟩
      have hgd := g3.good
      refine ⟨_, by rw [cell_of ba]; exact e17, Sum_spec tla (by have := hgd.len; omega) (fun k => by have := hgd.le k; omega) fun h2 s2 => ⟨_, rfl, ?_⟩⟩
      unfold stub_Stubs_Held.k3
      refine bcase_intro (fun hd' => ?_) fun hd' => ?_
      · have hd' : 0 < sumOf x.cn := by have := of_decide_eq_true hd'; omega
        exact yes hc (.inl ((sum_pos hgd).1 hd')) h2 s2
      · have hd' : ¬ 0 < sumOf x.cn := by have := of_decide_eq_false hd'; omega
        unfold stub_Stubs_Held.k2
        simp only [someD_some, Addr.add_mk, Nat.zero_add]
        refine ⟨by omega, by omega, _, by rw [cell_of (s2.keepB0 ba)]; exact e19, bcase_intro (fun hf => ?_) fun hf => ?_⟩
        · have hf : 0 < x.t1 := by have := of_decide_eq_true hf; omega
          exact yes hc (.inr hf) h2 s2
        · have hf : ¬ 0 < x.t1 := by have := of_decide_eq_false hf; omega
          obtain ⟨y1, y2⟩ := nx (fun e => e.2.elim (fun e => hd' ((sum_pos hgd).2 e)) hf) h2 s2
          exact ⟨s2.keepB0 lla, y1, .inl ⟨by trivial, y2⟩⟩
    · obtain ⟨y1, y2⟩ := nx (fun e => by rw [e.1] at hc; simp at hc) Ha (Step.refl [] Ha)
      exact ⟨lla, y1, .inl ⟨by trivial, y2⟩⟩
  · rintro h' ⟨i1, i2, i3, i4, i7, i8⟩
    unfold stub_Stubs_Held.k5
    have a1 : (h'.put lb R.over) b1 = some (.cells #[.bool false] T.bool (0, 0)) := by rw [put_ne n1l]; exact i4
    have hh : heldB L tgt = false := heldB_false.2 fun ⟨i, x, hL, hx⟩ => by
      have hlt : i < sp.length := Nat.lt_of_not_le fun hle => by rw [t.out i hle] at hL; cases hL
      have hs : sp[i]? = some sp[i] := List.getElem?_eq_getElem hlt
      have hst : sp[i].t = true := by
        cases e : sp[i].t with
        | true => rfl
        | false => rw [t.non i _ hs e] at hL; cases hL
      have hm : (i, sp[i]) ∈ live 0 sp := live_mem.2 ⟨by omega, by simp, hst⟩
      obtain ⟨j', hj'⟩ := List.mem_iff_getElem?.1 hm
      exact i7 j' i _ x (List.getElem?_eq_some_iff.1 hj').1 hj' hL hx
    refine .inl ⟨i1, ⟨_, by rw [cell_of a1]; rfl⟩, frozen_of a1, false, by rw [cell_of (setCell_blk a1)]; rfl, ?_⟩
    rw [← hh]
    exact hk _ ((i2.trans (Step.put (.inl (by simp)))).trans (Step.setCell a1 (by simp))).forget0

/-! ### New -/
theorem sNew_spec {m : Int} (w : WF h c) (hox : ox < 18446744073709551616) (hm : 1 ≤ m ∧ m ≤ 65536) (hk : ∀ S h' c', PSt h' c' S ox m.toNat [] [] (fun _ => none) 0 → Chg prR h c h' c' → K (.tuple #[.pointer (some ⟨S, 0, none⟩), .int .i64 0]) h') :
    HC P stub_New.n #[.int .u64 (ox : Int), .int .i64 m] h K := by
  refine stub_New.hc ?_
  unfold stub_New
  refine New_spec w hm fun A h1 c1 a1 q1 => ⟨_, _, rfl, ?_⟩
  unfold stub_New.k1
  refine bcF rfl ?_
  unfold stub_New.k0
  intro S hS
  refine hk S _ (c1.set S (4, 0)) ⟨A, put_self, Col.set_self, a1.keep (Same.putC (by rw [q1.wf.fresh hS]; simp)), by simp, by simp, fun _ _ => rfl, by simp⟩ ((q1.weak fun r hr => .inl hr).newC hS)
end Go.Den.Stub
end

