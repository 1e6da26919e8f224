import Derived.Test.YtkpbmddfmmoomaaLeaseK
import Derived.Shelf.SlMaps.Clone
/- slices.Sort, Collect, Sorted; maps.Keys, Clone. -/
set_option linter.unusedVariables false
namespace Go.Den.Lease
open Go Go.Den Go.Sort Go.Shelf

section
variable {h : Hp} {K : Value → Hp → Prop}

theorem insertion_none {cap : Nat} (hk : K (.tuple #[]) h) : HC P slices_insertionSortOrdered_uint64.n #[.slice none 0 cap, .int .i64 0, .int .i64 0] h K := by
  refine slices_insertionSortOrdered_uint64.hc ?_
  unfold slices_insertionSortOrdered_uint64
  rw [show IntKind.wrap .i64 ((0 : Int) + 1) = 1 from rfl]
  refine ⟨fun vs hh => vs = [.int .i64 1] ∧ hh = h, fun _ _ => 0, ⟨rfl, rfl⟩, ?_⟩
  rintro h0 n2 ⟨he, rfl⟩
  cases he
  exact sbcase_false (by decide) hk

theorem pdq_none {cap : Nat} {lim : Int} (hk : K (.tuple #[]) h) : HC P slices_pdqsortOrdered_uint64.n #[.slice none 0 cap, .int .i64 0, .int .i64 0, .int .i64 lim] h K := by
  refine slices_pdqsortOrdered_uint64.hc ?_
  unfold slices_pdqsortOrdered_uint64
  refine ⟨fun vs hh => vs = [.int .i64 lim, .bool true, .int .i64 0, .bool true, .int .i64 0] ∧ hh = h, fun _ _ => 0, ⟨rfl, rfl⟩, ?_⟩
  rintro h0 n3 b0 n4 b1 n5 ⟨he, rfl⟩
  cases he
  exact sbcase_true (by decide) (insertion_none hk)

theorem sorted_list {d : Array Int} {n : Nat} (hn : d.size = n) (h : SortedIn slt 0 n d) : d.toList.Pairwise (· ≤ ·) := by
  rw [List.pairwise_iff_getElem]
  intro i j hi hj hij
  have := h i j (by omega) hij (by simpa [hn] using hj)
  simp at hi hj
  rw [getElem!_pos d j hj, getElem!_pos d i hi] at this
  simp [slt] at this
  simpa using this

theorem Sort_spec {a : Option Addr} {cap : Nat} {ks : List Int} {o : List Nat} {Z : Value → Prop} (hs : SlAt h T.uint64 1 Z a ks.length cap (u64s ks) o) (hl : ks.length < 2147483648)
    (hk : ∀ h' ks', SlAt h' T.uint64 1 Z a ks'.length cap (u64s ks') o → ks'.Perm ks → ks'.Pairwise (· ≤ ·) → Step o h o h' → K (.tuple #[]) h') : HC P slices_Sort_uint64_uint64.n #[.slice a ks.length cap] h K := by
  refine slices_Sort_uint64_uint64.hc ?_
  unfold slices_Sort_uint64_uint64
  rw [u64_wrap (by omega)]
  refine len_spec (by omega) ⟨_, rfl, ?_⟩
  unfold slices_Sort_uint64_uint64.k0
  obtain ⟨n, hn⟩ : ∃ n, n = ks.length := ⟨_, rfl⟩
  rw [← hn] at hs ⊢
  obtain ⟨vs, hvs⟩ : ∃ vs, vs = u64s ks := ⟨_, rfl⟩
  rw [← hvs] at hs
  cases hs with
  | none =>
    have : ks = [] := List.length_eq_zero_iff.1 hn.symm
    subst this
    exact pdq_none (hk h [] .none .rfl .nil (Step.refl _ _))
  | @some b off len cap pre vs rest post hb hp h1 h2 h3 h4 =>
    subst hvs hp hn
    have A : Arr b pre (rest ++ post) h ks.toArray := ⟨by rw [hb]⟩
    have hsz : ks.toArray.size = ks.length := by simp
    have e0 : bitsLen ks.length ≤ 62 := (bitsLen_le_iff _ 62).2 (by omega)
    have := pdq_spec (q := b) (pre := pre) (post := rest ++ post) ks.length ks.toArray 0 ks.length (bitsLen ks.length) cap h (fun _ h1 => K (.tuple #[]) h1) (by omega) A (by omega) (by omega) (by omega) (by omega) (.inl rfl) fun h' A' S' => ?_
    · rw [hsz] at this; exact this
    obtain ⟨hp, hss⟩ := sort_sorts slt slt_swo ks.toArray
    unfold Go.Sort.sort at hp hss
    rw [hsz] at hp hss
    obtain ⟨d, hd⟩ : ∃ d, d = pdq slt ks.toArray 0 ks.length (bitsLen ks.length) true true := ⟨_, rfl⟩
    rw [← hd] at hp hss A'
    have hds : d.size = ks.length := by rw [hp.1]; simp
    have hperm : d.toList.Perm ks := by
      have := hp.2.2
      rw [← hds, Array.extract_size] at this
      rw [hds, ← hsz, Array.extract_size] at this
      simpa using this
    refine hk h' d.toList (.some (pre := pre) (rest := rest) (post := post) A'.blk rfl (by simp [u64s]) ?_ (by simp [hds]; exact h3) h4) hperm (sorted_list hds hss) S'
    simp [hds]; simpa using h2

theorem Collect_spec {fb r : Nat} {L : List (Int × Value)} (hf : h fb = some (.cells #[.map (some r)] T.map_uint64_int (0, 0))) (hm : MapAt h r .u64 L) (hL : L.length < 2147483648)
    (hk : ∀ h' a cap o ks, SlAt h' T.uint64 1 Any' a ks.length cap (u64s ks) o → ks.Perm (L.map (·.1)) → Step [] h o h' → K (.slice a ks.length cap) h') :
    HC P slices_Collect_uint64.n #[.func (.func maps_Keys_map_uint64_int_uint64_int_1.n) #[] #[.pointer (some ⟨fb, 0, none⟩)]] h K :=
  slices_Collect_uint64.hc (AppendSeq_spec hf hm hL fun h' a cap o ks g1 g2 g3 => ⟨_, _, _, rfl, hk h' a cap o ks g1 g2 g3⟩)

theorem Sorted_spec {fb r : Nat} {L : List (Int × Value)} (hf : h fb = some (.cells #[.map (some r)] T.map_uint64_int (0, 0))) (hm : MapAt h r .u64 L) (hL : L.length < 2147483648)
    (hk : ∀ h' a cap o ks, SlAt h' T.uint64 1 Any' a ks.length cap (u64s ks) o → ks.Perm (L.map (·.1)) → ks.Pairwise (· ≤ ·) → Step [] h o h' → K (.slice a ks.length cap) h') :
    HC P slices_Sorted_uint64.n #[.func (.func maps_Keys_map_uint64_int_uint64_int_1.n) #[] #[.pointer (some ⟨fb, 0, none⟩)]] h K := by
  refine slices_Sorted_uint64.hc (Collect_spec hf hm hL fun h' a cap o ks g1 g2 g3 => ⟨_, _, _, rfl, ?_⟩)
  have hl : ks.length = L.length := by rw [g2.length_eq]; simp
  refine Sort_spec g1 (by omega) fun h2 ks' k1 k2 k3 k4 => ?_
  have := hk h2 a cap o ks' k1 (k2.trans g2) k3 (g3.trans k4)
  rwa [k2.length_eq] at this

theorem Keys_spec {m : Option Nat} (hk : ∀ b, h b = none → K (.func (.func maps_Keys_map_uint64_int_uint64_int_1.n) #[] #[.pointer (some ⟨b, 0, none⟩)]) (h.put b (.cells #[.map m] T.map_uint64_int (0, 0)))) :
    HC P maps_Keys_map_uint64_int_uint64_int.n #[.map m] h K := maps_Keys_map_uint64_int_uint64_int.hc hk

def clone_ren : Ren := ⟨fun | 5 => 28 | 7 => 31 | n => n, fun | 4 => 4 | 20 => 20 | 23 => 54 | 25 => 30 | 3 => 3 | n => n, fun n => n⟩
theorem clone_lays : Go.Proofs.SlLaysW.n5 P clone_ren where
  mixed := by kernel_rfl
  f5 := ⟨Go.Proofs.Try.f28.name, by decide, Go.Proofs.Try.func28.trans (congrArg some (by kernel_rfl))⟩
  f7 := Go.Proofs.Try.func31.trans (congrArg some (by kernel_rfl))
  t4 := Go.Proofs.Try.underlying4
  a4 := Go.Proofs.Try.isAgg4
  z4 := Go.Proofs.Try.sizeOf4
  v4 := Go.Proofs.Try.zeroValue4
  t20 := Go.Proofs.Try.underlying20
  a20 := Go.Proofs.Try.isAgg20
  z20 := Go.Proofs.Try.sizeOf20
  v20 := Go.Proofs.Try.zeroValue20
  t23 := Go.Proofs.Try.underlying54
  a23 := Go.Proofs.Try.isAgg54
  z23 := Go.Proofs.Try.sizeOf54
  v23 := Go.Proofs.Try.zeroValue54

theorem Clone_spec {r : Nat} {L : List (Int × Value)} (hm : MapAt h r .u64 L) (hk : ∀ h' b, h b = none → MapAt h' b .u64 L → Step [] h [b] h' → K (.map (some b)) h') :
    HC P maps_Clone_map_uint64_int_uint64_int.n #[.map (some r)] h K := by
  obtain ⟨es, c, e1, e2, B⟩ := hm
  intro w hw
  subst hw
  obtain ⟨g1, -⟩ := hp_some e1
  refine (callsIn_wide.2 (Go.Proofs.AnyW.maps_Clone clone_lays r es c w g1)).mono ?_
  rintro e w' ⟨rfl, rfl⟩
  have e : hp (w.alloc (.map es c)) = (hp w).put w.heap.size (.map es c) := hp_alloc w (.map es c) rfl
  refine ⟨_, rfl, Amb.alloc _ _, ?_⟩
  rw [e]
  exact hk _ _ (hp_size w) ⟨es, c, put_self, e2, B⟩ (Step.new (hp_size w))
end
end Go.Den.Lease
