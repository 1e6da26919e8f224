import Derived.Test.YtnjcfmlnegedcaaDen14
import Derived.Test.YtnjcfmlnegedcaaRing0
/- The contracts of ring. -/
set_option linter.unusedVariables false
namespace Go.Den.Ring
open Go Go.Den

def ints (xs : List Int) : List Value := xs.map fun n => .int .i64 n
def isI (v : Value) : Prop := ∃ n, v = .int .i64 n
@[simp] theorem ints_length {xs : List Int} : (ints xs).length = xs.length := by simp [ints]
theorem ints_append {xs ys : List Int} : ints (xs ++ ys) = ints xs ++ ints ys := by simp [ints]
theorem ints_get {xs : List Int} {i : Nat} : (ints xs)[i]? = (xs[i]?).map fun n => .int .i64 n := by simp [ints]
theorem ints_cellish {xs : List Int} : ∀ v ∈ ints xs, cellish v = true := by
  intro v hv; simp [ints] at hv; obtain ⟨n, _, rfl⟩ := hv; rfl
theorem ints_of {vs : List Value} (h : ∀ v ∈ vs, isI v) : ∃ xs, vs = ints xs := by
  induction vs with
  | nil => exact ⟨[], rfl⟩
  | cons v vs ih =>
    obtain ⟨n, rfl⟩ := h v (by simp)
    obtain ⟨xs, rfl⟩ := ih fun u hu => h u (by simp [hu])
    exact ⟨n :: xs, rfl⟩

theorem slInt : SliceTy P T.sl_int T.int 1 := sliceTy_of (by kernel_rfl)
theorem slIntU : P.underlying T.sl_int = some (.slice T.int) := by kernel_rfl
theorem zInt : ∀ i z, P.info? T.int = some i → i.zero = some z → ∀ v ∈ z.cells, isI v := zeroOf_spec (l := [.int .i64 0]) (by kernel_rfl) (by intro v hv; simp at hv; exact ⟨0, hv⟩)

abbrev Ints (h : Hp) (a : Option Addr) (len cap : Nat) (xs : List Int) (o : List Nat) : Prop := SlAt h T.int 1 isI a len cap (ints xs) o

/-- A number laid behind a slice. -/
theorem push_wp {a : Option Addr} {len cap b : Nat} {xs : List Int} {o : List Nat} {x : Int} {h : Hp} {K : Value → Hp → Prop}
    (hs : Ints h a len cap xs o) (hb : h b = none) (hn : len + 1 < 2 ^ 32)
    (hk : ∀ a' cap' o' h', Ints h' a' (len + 1) cap' (xs ++ [x]) o' → (len + 1 ≤ cap → a' = a ∧ cap' = cap ∧ o' = o) → Step o h o' h' → K (.slice a' (len + 1) cap') h') :
    wpSem P (Builtin.append_ #[T.sl_int, T.sl_int] T.sl_int #[.slice a len cap, .slice (some ⟨b, 0, none⟩) 1 1]) K (h.put b (.cells #[.int .i64 x] T.int (0, 0))) := by
  have hne : ∀ k ∈ o, k ≠ b := fun k hk e => hs.mem k hk (e ▸ hb)
  refine append_wp (cs := [.int .i64 x]) slInt slIntU (hs.keep fun k hk => put_ne (hne k hk)) zInt (.some ⟨by simp, fun j v hv => ?_⟩) (by simp [cellish]) hn fun a' cap' o' h' h1 h2 h3 => ?_
  · rw [Addr.add_mk, cell_of put_self]; simpa using hv
  · refine hk a' cap' o' h' (by rw [Ints, ints_append]; exact h1) h2 ((Step.put (.inr hb)).trans h3)

def Raw (h : Hp) (b most : Nat) (xs : List Int) (o : List Nat) (a : Option Addr) (len cap fr : Nat) (o' : List Nat) (sp : List Int) : Prop :=
  h b = some (.cells #[.int .i64 most, .slice a len cap, .int .i64 fr, .int .i64 xs.length] T.ring_Ring_int (0, 0)) ∧
    Ints h a len cap sp o' ∧ o = b :: o' ∧ b ∉ o' ∧ xs.length ≤ len ∧ len ≤ most ∧ (fr < len ∨ fr = 0) ∧ ∀ i, i < xs.length → sp[(fr + i) % len]? = xs[i]?

structure RingAt (h : Hp) (b most : Nat) (xs : List Int) (o : List Nat) : Prop where
  ex : ∃ (a : Option Addr) (len cap fr : Nat) (o' : List Nat) (sp : List Int), Raw h b most xs o a len cap fr o' sp
  most1 : 1 ≤ most
  most2 : most ≤ 65536

theorem RingAt.keep {h h' : Hp} {b most : Nat} {xs : List Int} {o : List Nat} (hr : RingAt h b most xs o) (hk : ∀ k ∈ o, h' k = h k) : RingAt h' b most xs o := by
  obtain ⟨⟨a, len, cap, fr, o', sp, hb, hs, rfl, hr⟩, h1, h2⟩ := hr
  exact ⟨⟨a, len, cap, fr, o', sp, by rw [hk b (by simp)]; exact hb, hs.keep fun k hm => hk k (by simp [hm]), rfl, hr⟩, h1, h2⟩

theorem RingAt.mem {h : Hp} {b most : Nat} {xs : List Int} {o : List Nat} (hr : RingAt h b most xs o) : ∀ k ∈ o, h k ≠ none := by
  obtain ⟨⟨a, len, cap, fr, o', sp, hb, hs, rfl, hr⟩, h1, h2⟩ := hr
  intro k hk
  rcases List.mem_cons.1 hk with rfl | hk
  · simp [hb]
  · exact hs.mem k hk

theorem RingAt.step {h h' : Hp} {b most : Nat} {xs : List Int} {o p p' : List Nat} (hr : RingAt h b most xs o) (hs : Step p h p' h') (hd : ∀ k ∈ o, k ∉ p) : RingAt h' b most xs o :=
  hr.keep fun k hk => hs.keep k (hr.mem k hk) (hd k hk)

theorem New_spec {n : Int} {h : Hp} {K : Value → Hp → Prop} (h0 : n < 1 ∨ 65536 < n → K (.tuple #[.pointer none, .int .i64 1]) h)
    (h1 : ∀ b (m : Nat) h', n = m → RingAt h' b m [] [b] → Step [] h [b] h' → K (.tuple #[.pointer (some ⟨b, 0, none⟩), .int .i64 0]) h') : HC P ring_New.n #[.int .i64 n] h K := by
  refine ring_New.hc ?_
  unfold ring_New
  refine bcase_intro (fun c => h0 (.inl (by simpa using c))) fun c => bcase_intro (fun d => h0 (.inr (by simpa using d))) fun d => ?_
  intro b hb
  simp at c d
  obtain ⟨m, rfl⟩ : ∃ m : Nat, n = m := ⟨n.toNat, by omega⟩
  exact h1 b m _ rfl ⟨⟨none, 0, 0, 0, [], [], by rw [put_self]; simp, .none, rfl, by simp, by simp, by omega, .inr rfl, by simp⟩, by omega, by omega⟩ (Step.new hb)

theorem Len_spec {h : Hp} {b most : Nat} {xs : List Int} {o : List Nat} {K : Value → Hp → Prop} (hr : RingAt h b most xs o) (hk : K (.int .i64 xs.length) h) : HC P ring_Ring_Len.n #[.pointer (some ⟨b, 0, none⟩)] h K := by
  obtain ⟨⟨a, len, cap, fr, o', sp, hb, _⟩, _, _⟩ := hr
  refine ring_Ring_Len.hc ?_
  simp [ring_Ring_Len, cell_of hb]
  exact hk

theorem Len_nil {h : Hp} {K : Value → Hp → Prop} (hk : K (.int .i64 0) h) : HC P ring_Ring_Len.n #[.pointer none] h K := by
  refine ring_Ring_Len.hc ?_
  simpa [ring_Ring_Len] using hk

theorem At_none {h : Hp} {b most : Nat} {xs : List Int} {o : List Nat} {i : Int} {K : Value → Hp → Prop} (hr : RingAt h b most xs o) (hi : i < 0 ∨ xs.length ≤ i) (hk : K (.tuple #[.int .i64 0, .int .i64 12]) h) :
    HC P ring_Ring_At.n #[.pointer (some ⟨b, 0, none⟩), .int .i64 i] h K := by
  refine ring_Ring_At.hc ?_
  unfold ring_Ring_At
  refine bcase_intro (fun _ => hk) fun c => ?_
  refine Len_spec hr ⟨_, rfl, bcase_intro (fun _ => hk) fun d => ?_⟩
  simp at c d; omega

theorem At_nil {h : Hp} {i : Int} {K : Value → Hp → Prop} (hk : K (.tuple #[.int .i64 0, .int .i64 12]) h) : HC P ring_Ring_At.n #[.pointer none, .int .i64 i] h K := by
  refine ring_Ring_At.hc ?_
  unfold ring_Ring_At
  refine bcase_intro (fun _ => hk) fun c => ?_
  refine Len_nil ⟨_, rfl, bcase_intro (fun _ => hk) fun d => ?_⟩
  simp at c d; omega

theorem tmod_nat (a b : Nat) : Int.tmod (a : Int) (b : Int) = ((a % b : Nat) : Int) := by
  rw [Int.tmod_eq_emod_of_nonneg (by omega)]; simp

theorem At_some {h : Hp} {b most : Nat} {xs : List Int} {o : List Nat} {i : Nat} {x : Int} {K : Value → Hp → Prop} (hr : RingAt h b most xs o) (hi : xs[i]? = some x) (hk : K (.tuple #[.int .i64 x, .int .i64 0]) h) :
    HC P ring_Ring_At.n #[.pointer (some ⟨b, 0, none⟩), .int .i64 i] h K := by
  refine ring_Ring_At.hc ?_
  unfold ring_Ring_At
  have hlt : i < xs.length := (List.getElem?_eq_some_iff.1 hi).1
  refine bcase_intro (fun c => by simp at c; omega) fun c => ?_
  refine Len_spec hr ⟨_, rfl, bcase_intro (fun d => by simp at d; omega) fun d => ?_⟩
  obtain ⟨⟨a, len, cap, fr, o', sp, hb, hs, rfl, hbo, h3, h4, h5, h6⟩, h1, h2⟩ := hr
  have hw : IntKind.wrap .i64 ((fr : Int) + (i : Int)) = ((fr + i : Nat) : Int) := by rw [wrap_id (by omega) (by omega)]; omega
  have hmod : (fr + i) % len < len := Nat.mod_lt _ (by omega)
  have c1 : h.cell? ⟨b, 1, none⟩ = some (.slice a len cap) := by rw [cell_of hb]; rfl
  have c2 : h.cell? ⟨b, 2, none⟩ = some (.int .i64 fr) := by rw [cell_of hb]; rfl
  simp only [someD_some, Addr.add_mk, Nat.zero_add]
  refine ⟨_, _, _, c1, _, c2, _, _, _, c1, by omega, ?_⟩
  rw [hw, tmod_nat]
  obtain ⟨sb, cs, rfl, -, -, hc, -⟩ := hs.cell hmod
  simp only [someD_some, Addr.add_mk, Nat.zero_add]
  refine ⟨by omega, by omega, _, ?_, hk⟩
  rw [Int.toNat_natCast, Nat.mul_one, hc, ints_get, h6 i hlt, hi]; rfl

theorem now_spec {h : Hp} {b most : Nat} {xs : List Int} {o : List Nat} {K : Value → Hp → Prop} (hr : RingAt h b most xs o)
    (hk : ∀ a cap o' h', Ints h' a xs.length cap xs o' → Step [] h o' h' → K (.slice a xs.length cap) h') : HC P ring_Ring_now.n #[.pointer (some ⟨b, 0, none⟩)] h K := by
  refine ring_Ring_now.hc ?_
  unfold ring_Ring_now
  have hbig : xs.length ≤ 65536 := by obtain ⟨⟨a, len, cap, fr, o', sp, hb, hs, rfl, hbo, h3, h4, h5, h6⟩, h1, h2⟩ := hr; omega
  refine Len_spec hr ⟨_, rfl, ?_⟩
  refine ⟨fun vs h1 => ∃ a cap o' i, vs = [.slice a i cap, .int .i64 i] ∧ Ints h1 a i cap (xs.take i) o' ∧ Step [] h o' h1 ∧ i ≤ xs.length,
    fun vs _ => match vs with | [_, .int _ i] => xs.length - i.toNat | _ => 0, ⟨none, 0, [], 0, rfl, .none, Step.refl _ _, by omega⟩, ?_⟩
  rintro h1 a j c i ⟨a', cap', o', j', he, hs, hst, hj⟩
  cases he
  refine bcase_intro (fun hc => ?_) fun hc => ?_
  · have hc : j < xs.length := by simpa using hc
    refine At_some (hr.step hst (by simp)) (List.getElem?_eq_getElem hc) ⟨_, _, rfl, fun b0 hb0 => ?_⟩
    refine push_wp hs hb0 (by omega) fun a2 cap2 o2 h2 s1 _ s2 => ?_
    have hw : IntKind.wrap .i64 ((j : Int) + 1) = ((j + 1 : Nat) : Int) := by rw [wrap_id (by omega) (by omega)]; omega
    rw [hw]
    refine ⟨_, _, _, rfl, ⟨a2, cap2, o2, j + 1, rfl, ?_, hst.trans s2, by omega⟩, ?_⟩
    · rw [List.take_add_one, List.getElem?_eq_getElem hc]; exact s1
    · show xs.length - (j + 1) < xs.length - j
      omega
  · obtain rfl : j = xs.length := by simp at hc; omega
    rw [List.take_length] at hs
    exact hk _ _ _ _ hs hst

theorem now_nil {h : Hp} {K : Value → Hp → Prop} (hk : K (.slice none 0 0) h) : HC P ring_Ring_now.n #[.pointer none] h K := by
  refine ring_Ring_now.hc ?_
  unfold ring_Ring_now
  refine Len_nil ⟨_, rfl, ?_⟩
  refine ⟨fun vs h1 => vs = [.slice none 0 0, .int .i64 0] ∧ h1 = h, fun _ _ => 0, ⟨rfl, rfl⟩, ?_⟩
  rintro h1 a n c i ⟨he, rfl⟩
  cases he
  exact bcase_intro (fun hc => by simp at hc) fun _ => hk

/-- A loop over a row: what is known behind so many things. -/
theorem All_1_spec {h : Hp} {b most fb l : Nat} {xs : List Int} {o p : List Nat} {K : Value → Hp → Prop} {I : Nat → List Nat → Hp → Prop} (hr : RingAt h b most xs o)
    (hf : h.cell? ⟨fb, 0, none⟩ = some (.pointer (some ⟨b, 0, none⟩))) (hp : ∀ k ∈ p, h k ≠ none) (h0 : ∀ h', Step [] h [] h' → I 0 p h')
    (hy : ∀ i x o' h', xs[i]? = some x → I i o' h' → HY P l #[.int .i64 i, .int .i64 x] h' fun v h'' =>
      ∃ o'', Step o' h' o'' h'' ∧ ((v = .bool true ∧ I (i + 1) o'' h'') ∨ (v = .bool false ∧ K (.tuple #[]) h'')))
    (hk : ∀ o' h', I xs.length o' h' → K (.tuple #[]) h') : HC P ring_Ring_All_1.n #[.func (.yield l) #[] #[], .pointer (some ⟨fb, 0, none⟩)] h K := by
  refine ring_Ring_All_1.hc ?_
  unfold ring_Ring_All_1
  have hbig : xs.length ≤ 65536 := by obtain ⟨⟨a, len, cap, fr, o', sp, hb, hs, rfl, hbo, h3, h4, h5, h6⟩, h1, h2⟩ := hr; omega
  simp only [someD_some]
  refine ⟨_, hf, now_spec hr fun a cap o1 h1 hs1 st1 => ⟨_, _, _, rfl, ?_⟩⟩
  have hd : ∀ k ∈ o1, k ∉ p := fun k hk hm => by
    rcases st1.own k hk with hx | hx
    · simp at hx
    · exact hp k hm hx
  refine ⟨fun vs h2 => ∃ i o', vs = [.int .i64 (i : Nat)] ∧ Ints h2 a xs.length cap xs o1 ∧ (∀ k ∈ o1, k ∉ o') ∧ I i o' h2 ∧ i ≤ xs.length,
    fun vs _ => match vs with | [.int _ i] => xs.length - i.toNat | _ => 0, ⟨0, p, rfl, hs1, hd, h0 _ (st1.weak (fun _ hk => hk) (by simp)), by omega⟩, ?_⟩
  rintro h2 i ⟨j, o', he, hs2, hd2, hI, hj⟩
  cases he
  refine bcase_intro (fun hc => ?_) fun hc => ?_
  · have hc : j < xs.length := by simpa using hc
    obtain ⟨sb, cs, rfl, rfl, -, hcell, -⟩ := hs2.cell hc
    simp only [someD_some, Addr.add_mk, Nat.zero_add]
    refine ⟨by omega, by omega, _, by rw [Int.toNat_natCast, Nat.mul_one, hcell, ints_get, List.getElem?_eq_getElem hc]; rfl, ?_⟩
    refine (hy j _ o' h2 (List.getElem?_eq_getElem hc) hI).mono ?_
    rintro v h3 ⟨o'', st, ⟨rfl, hI'⟩ | ⟨rfl, hK⟩⟩
    · have hw : IntKind.wrap .i64 ((j : Int) + 1) = ((j + 1 : Nat) : Int) := by rw [wrap_id (by omega) (by omega)]; omega
      refine ⟨_, rfl, ?_⟩
      simp only [Bool.not_true, bcase_false, hw]
      refine ⟨⟨j + 1, o'', rfl, hs2.keep fun k hk => st.keep k (hs2.mem k hk) (hd2 k hk), st.disj hs2.mem hd2, hI', by omega⟩, ?_⟩
      show xs.length - (j + 1) < xs.length - j
      omega
    · exact ⟨_, rfl, hK⟩
  · obtain rfl : j = xs.length := by simp at hc; omega
    exact hk _ _ hI

theorem put_block {h : Hp} {b k : Nat} {o x : Obj} (hk : h k = some x) (hne : k ≠ b) : (h.put b o) k = some x := by rw [put_ne hne]; exact hk

theorem put_none {h : Hp} {b k : Nat} {x : Obj} (hk : (h.put b x) k = none) : k ≠ b ∧ h k = none := by
  unfold Hp.put at hk; split at hk
  · cases hk
  · exact ⟨by assumption, hk⟩

theorem All_spec {h : Hp} {p : Option Addr} {K : Value → Hp → Prop}
    (hk : ∀ fb, h fb = none → K (.func (.func ring_Ring_All_1.n) #[] #[.pointer (some ⟨fb, 0, none⟩)]) (h.put fb (.cells #[.pointer p] T.ptr_ring_Ring_int (0, 0)))) : HC P ring_Ring_All.n #[.pointer p] h K :=
  ring_Ring_All.hc hk
theorem Back_spec {h : Hp} {p : Option Addr} {K : Value → Hp → Prop}
    (hk : ∀ fb, h fb = none → K (.func (.func ring_Ring_Back_1.n) #[] #[.pointer (some ⟨fb, 0, none⟩)]) (h.put fb (.cells #[.pointer p] T.ptr_ring_Ring_int (0, 0)))) : HC P ring_Ring_Back.n #[.pointer p] h K :=
  ring_Ring_Back.hc hk

theorem call_All_1 : callable P ring_Ring_All_1.n = true := by kernel_rfl
theorem call_Back_1 : callable P ring_Ring_Back_1.n = true := by kernel_rfl

theorem grow_spec {h : Hp} {b most : Nat} {xs : List Int} {o : List Nat} {a : Option Addr} {len cap fr : Nat} {o' : List Nat} {sp : List Int} {K : Value → Hp → Prop} (hr : RingAt h b most xs o)
    (hw : Raw h b most xs o a len cap fr o' sp) (hl : xs.length = len) (hm : xs.length < most)
    (hk : ∀ h' o2 a2 len2 cap2 o2' sp2, Raw h' b most xs o2 a2 len2 cap2 0 o2' sp2 → xs.length < len2 → Step o h o2 h' → K (.tuple #[]) h') : HC P ring_Ring_grow.n #[.pointer (some ⟨b, 0, none⟩)] h K := by
  refine ring_Ring_grow.hc ?_
  unfold ring_Ring_grow
  have ⟨hb, hs, ho, hbo, h3, h4, h5, h6⟩ := hw
  have c1 : h.cell? ⟨b, 1, none⟩ = some (.slice a len cap) := by rw [cell_of hb]; rfl
  have c0 : h.cell? ⟨b, 0, none⟩ = some (.int .i64 most) := by rw [cell_of hb]; rfl
  have hmost := hr.most2
  obtain ⟨C, hC⟩ : ∃ C : Nat, C = if most < 2 * len + 4 then most else 2 * len + 4 := ⟨_, rfl⟩
  have hCe : (if (most : Int) < (IntKind.wrap .i64 ((IntKind.wrap .i64 (2 * (len : Int))) + 4)) then (most : Int) else (IntKind.wrap .i64 ((IntKind.wrap .i64 (2 * (len : Int))) + 4))) = (C : Int) := by
    rw [wrap_id (n := 2 * (len : Int)) (by omega) (by omega), wrap_id (by omega) (by omega), hC]
    split <;> split <;> omega
  have hC1 : xs.length < C := by rw [hC]; split <;> omega
  have hC2 : C ≤ most := by rw [hC]; split <;> omega
  simp only [someD_some, Addr.add_mk, Nat.zero_add]
  refine ⟨_, _, _, c1, _, c0, ?_⟩
  rw [hCe]
  refine ⟨by omega, by omega, by omega, by omega, fun b0 hb0 b1 hb1 => ?_⟩
  obtain ⟨n10, hb1⟩ := put_none hb1
  have hbne : h b ≠ none := by rw [hb]; simp
  rw [Int.toNat_natCast, Nat.mul_one, setCell_of put_self, put_put]
  refine ⟨⟨_, by rw [cell_of put_self]; rfl⟩, frozen_of put_self, All_spec fun fb hfb => ?_⟩
  obtain ⟨nf1, hfb⟩ := put_none hfb
  obtain ⟨nf0, hfb⟩ := put_none hfb
  refine ⟨_, _, _, rfl, trueD_intro call_All_1 ?_⟩
  intro l R hl0 hbody
  obtain ⟨nlf, hl0⟩ := put_none hl0
  obtain ⟨nl1, hl0⟩ := put_none hl0
  obtain ⟨nl0, hl0⟩ := put_none hl0
  have nbb : ∀ k, h k = none → b ≠ k := fun k hk e => hbne (e ▸ hk)
  generalize hH : ((((h.put b0 (.cells (rowOf #[.int .i64 0] C) T.int (0, 0))).put b1 (.cells (#[Value.slice none 0 0].setIfInBounds 0 (.slice (some ⟨b0, 0, none⟩) (Int.toNat 0) C)) T.sl_int (0, 0))).put fb (.cells #[.pointer (some ⟨b, 0, none⟩)] T.ptr_ring_Ring_int (0, 0))).put l R.ready) = H
  have Hl : H l = some R.ready := by subst hH; simp [put_get]
  have Hfb : H fb = some (.cells #[.pointer (some ⟨b, 0, none⟩)] T.ptr_ring_Ring_int (0, 0)) := by subst hH; simp [put_get, Ne.symm nlf]
  have Hb1 : H b1 = some (.cells #[.slice (some ⟨b0, 0, none⟩) 0 C] T.sl_int (0, 0)) := by subst hH; simp [put_get, Ne.symm nl1, Ne.symm nf1]
  have Hb0 : H b0 = some (.cells (rowOf #[.int .i64 0] C) T.int (0, 0)) := by subst hH; simp [put_get, Ne.symm nl0, Ne.symm nf0, Ne.symm n10]
  have Hold : ∀ k, h k ≠ none → H k = h k := by
    intro k hk
    have e1 : k ≠ b0 := fun e => hk (e ▸ hb0)
    have e2 : k ≠ b1 := fun e => hk (e ▸ hb1)
    have e3 : k ≠ fb := fun e => hk (e ▸ hfb)
    have e4 : k ≠ l := fun e => hk (e ▸ hl0)
    subst hH; simp [put_get, e1, e2, e3, e4]
  have stH : Step [] h [b0, b1, l] H := ⟨fun k hk _ => Hold k hk, fun k hk => by
    simp at hk; rcases hk with rfl | rfl | rfl
    · exact .inr hb0
    · exact .inr hb1
    · exact .inr hl0, fun k hk => by rw [Hold k hk]; exact hk⟩
  have hrH : RingAt H b most xs o := hr.keep fun k hk => Hold k (hr.mem k hk)
  have hs0 : Ints H (some ⟨b0, 0, none⟩) 0 C [] [b0] := .some (rest := (rowOf #[.int .i64 0] C).toList) (by rw [Hb0]; simp [ints]) (by simp [ints]) (by simp [rowOf]) (by omega) (by
    intro v hv
    simp [rowOf] at hv
    obtain ⟨_, _, rfl⟩ := hv
    exact ⟨0, by simp [Nat.mod_one]⟩)
  refine All_1_spec (p := [b0, b1, l]) (I := fun i o' h' => o' = [b0, b1, l] ∧ h' l = some R.ready ∧ h' b1 = some (.cells #[.slice (some ⟨b0, 0, none⟩) i C] T.sl_int (0, 0)) ∧
    Ints h' (some ⟨b0, 0, none⟩) i C (xs.take i) [b0] ∧ Step [] h [b0, b1, l] h' ∧ i ≤ xs.length) hrH (by rw [cell_of Hfb]; rfl) (by
      intro k hk; simp at hk; rcases hk with rfl | rfl | rfl
      · simp [Hb0]
      · simp [Hb1]
      · simp [Hl]) (fun h' st => ⟨rfl, by rw [st.keep _ (by simp [Hl]) (by simp), Hl], by rw [st.keep _ (by simp [Hb1]) (by simp), Hb1],
        hs0.keep fun k hk => st.keep k (hs0.mem k hk) (by simp), stH.trans ⟨fun k hk _ => st.keep k hk (by simp), fun k hk => .inl hk, st.dom⟩, by omega⟩) ?_ ?_
  · rintro i x o3 h1 hx ⟨rfl, h1l, h1b, hs1, st1, hi⟩
    have hlt : i < xs.length := (List.getElem?_eq_some_iff.1 hx).1
    refine hbody _ _ _ _ h1l ⟨h1l, _, _, _, by rw [cell_of (by rw [put_ne (Ne.symm nl1)]; exact h1b)]; rfl, fun b2 hb2 => ?_⟩
    obtain ⟨n2l, hb2⟩ := put_none hb2
    have hs1' : Ints (h1.put l R.busy) (some ⟨b0, 0, none⟩) i C (xs.take i) [b0] := hs1.keep fun k hk => by simp at hk; subst hk; exact put_ne (Ne.symm nl0)
    refine push_wp hs1' (by rw [put_ne n2l]; exact hb2) (by omega) fun a2 cap2 o2 h2 s1 sfit s2 => ?_
    obtain ⟨rfl, rfl, rfl⟩ := sfit (by omega)
    have h2b : h2 b1 = some (.cells #[.slice (some ⟨b0, 0, none⟩) i cap2] T.sl_int (0, 0)) := s2.block (by rw [put_ne (Ne.symm nl1)]; exact h1b) (by simp [n10])
    have h2l : h2 l = some R.busy := s2.block put_self (by simp [nl0])
    simp only [setCell_of h2b]
    have st2 : Step [b0, b1, l] h1 [b0, b1, l] ((h2.put b1 (.cells #[.slice (some ⟨b0, 0, none⟩) (i + 1) cap2] T.sl_int (0, 0))).put l R.ready) :=
      (Step.put (.inl (by simp))).trans ((s2.frame [b1, l]).trans ((Step.put (.inl (by simp))).trans (Step.put (.inl (by simp)))))
    refine ⟨_, _, _, rfl, ⟨_, by rw [cell_of h2b]; rfl⟩, frozen_of h2b, by rw [put_ne nl1]; exact h2l, [b0, b1, l], st2, .inl ⟨trivial, rfl, put_self, ?_, ?_, st1.trans st2, by omega⟩⟩
    · rw [put_ne (Ne.symm nl1), put_self]; rfl
    · rw [List.take_add_one, hx]
      exact s1.keep fun k hk => by simp at hk; subst hk; rw [put_ne (Ne.symm nl0), put_ne (Ne.symm n10)]
  · rintro o3 h3 ⟨rfl, h3l, h3b, hs3, st3, -⟩
    rw [List.take_length] at hs3
    have e1 : (h3.put l R.over) b1 = some (.cells #[.slice (some ⟨b0, 0, none⟩) xs.length C] T.sl_int (0, 0)) := by rw [put_ne (Ne.symm nl1)]; exact h3b
    have e2 : (h3.put l R.over) b = some (.cells #[.int .i64 most, .slice a len cap, .int .i64 fr, .int .i64 xs.length] T.ring_Ring_int (0, 0)) := by
      rw [put_ne (nbb l hl0), st3.keep b hbne (by simp), hb]
    refine .inl ⟨h3l, _, _, _, by rw [cell_of e1]; rfl, _, _, _, by rw [cell_of e1]; rfl, by omega, by omega, ?_⟩
    simp only [setCell_of e2, Int.toNat_natCast, Nat.sub_zero]
    refine ⟨⟨_, by rw [cell_of e2]; rfl⟩, frozen_of e2, ?_⟩
    simp only [setCell_of put_self, put_put]
    refine ⟨⟨_, by rw [cell_of put_self]; rfl⟩, frozen_of put_self, ?_⟩
    have eo : offA (some ⟨b0, 0, none⟩) C 0 1 = some ⟨b0, 0, none⟩ := by unfold offA; split <;> rfl
    rw [eo]
    obtain ⟨rest, hz, hrl, hle, hfull⟩ := hs3.full
    obtain ⟨ys, rfl⟩ := ints_of hz
    rw [← ints_append] at hfull
    refine hk _ (b :: [b0]) (some ⟨b0, 0, none⟩) C C [b0] (xs ++ ys) ⟨by rw [put_self]; rfl, hfull.keep fun k hk => ?_, rfl, by simp; exact nbb b0 hb0, by omega, hC2, .inr rfl, fun i hi => ?_⟩ hC1 ?_
    · simp at hk; subst hk; rw [put_ne (fun e => nbb k hb0 e.symm), put_ne (Ne.symm nl0)]
    · rw [Nat.zero_add, Nat.mod_eq_of_lt (by omega), List.getElem?_append_left hi]
    · have hbo : b ∈ o := by rw [ho]; simp
      have s4 : Step [] h [b0, b1, l] (h3.put l R.over) := st3.trans (Step.put (.inl (by simp)))
      refine ((s4.frame [b]).trans (Step.put (b := b) (.inl (by simp)))).weak (by simp; exact hbo) fun k hk => ?_
      simp at hk
      rcases hk with rfl | rfl
      · exact .inl (by simp)
      · exact .inl (by simp)

theorem Raw.ring {h : Hp} {b most : Nat} {xs : List Int} {o : List Nat} {a : Option Addr} {len cap fr : Nat} {o' : List Nat} {sp : List Int} (hr : Raw h b most xs o a len cap fr o' sp) (h1 : 1 ≤ most) (h2 : most ≤ 65536) :
    RingAt h b most xs o := ⟨⟨a, len, cap, fr, o', sp, hr⟩, h1, h2⟩

theorem Put_full {h : Hp} {b most : Nat} {xs : List Int} {o : List Nat} {x : Int} {K : Value → Hp → Prop} (hr : RingAt h b most xs o) (hf : xs.length = most) (hk : K (.int .i64 3) h) :
    HC P ring_Ring_Put.n #[.pointer (some ⟨b, 0, none⟩), .int .i64 x] h K := by
  refine ring_Ring_Put.hc ?_
  unfold ring_Ring_Put
  obtain ⟨⟨a, len, cap, fr, o', sp, hb, _⟩, _, _⟩ := hr
  simp only [Option.isNone_some, bcase_false, someD_some, Addr.add_mk, Nat.zero_add]
  refine ⟨_, by rw [cell_of hb]; rfl, _, by rw [cell_of hb]; rfl, ?_⟩
  rw [hf]
  simpa using hk

theorem Put_nil {h : Hp} {x : Int} {K : Value → Hp → Prop} (hk : K (.int .i64 3) h) : HC P ring_Ring_Put.n #[.pointer none, .int .i64 x] h K := by
  refine ring_Ring_Put.hc ?_
  simpa [ring_Ring_Put] using hk

theorem set_get {l : List Int} {i j : Nat} {x : Int} (hj : j < l.length) : (l.set i x)[j]? = if j = i then some x else l[j]? := by
  rw [List.getElem?_set]
  by_cases h : i = j
  · subst h; simp [hj]
  · simp [h, Ne.symm h]

theorem ints_set {l : List Int} {i : Nat} {x : Int} : ints (l.set i x) = (ints l).set i (.int .i64 x) := by simp [ints]

theorem mod_inj {fr n i j : Nat} (hi : i < n) (hj : j < n) (h : (fr + i) % n = (fr + j) % n) : i = j := by
  have h1 := Nat.div_add_mod (fr + i) n
  have h2 := Nat.div_add_mod (fr + j) n
  rw [h] at h1
  generalize (fr + i) / n = u at h1
  generalize (fr + j) / n = v at h2
  generalize (fr + j) % n = w at h1 h2
  rcases Nat.lt_trichotomy u v with hh | hh | hh
  · have : n * v ≥ n * (u + 1) := Nat.mul_le_mul_left n hh
    rw [Nat.mul_succ] at this; omega
  · subst hh; omega
  · have : n * u ≥ n * (v + 1) := Nat.mul_le_mul_left n hh
    rw [Nat.mul_succ] at this; omega

theorem Put_some {h : Hp} {b most : Nat} {xs : List Int} {o : List Nat} {x : Int} {K : Value → Hp → Prop} (hr : RingAt h b most xs o) (hf : xs.length < most)
    (hk : ∀ o' h', RingAt h' b most (xs ++ [x]) o' → Step o h o' h' → K (.int .i64 0) h') : HC P ring_Ring_Put.n #[.pointer (some ⟨b, 0, none⟩), .int .i64 x] h K := by
  refine ring_Ring_Put.hc ?_
  unfold ring_Ring_Put
  obtain ⟨⟨a, len, cap, fr, o', sp, hw⟩, m1, m2⟩ := hr
  have hb := hw.1
  simp only [Option.isNone_some, bcase_false, someD_some, Addr.add_mk, Nat.zero_add]
  refine ⟨_, by rw [cell_of hb]; rfl, _, by rw [cell_of hb]; rfl, ?_⟩
  rw [show ((xs.length : Int) == (most : Int)) = false by simp; omega]
  simp only [bcase_false]
  refine ⟨_, by rw [cell_of hb]; rfl, _, _, _, by rw [cell_of hb]; rfl, ?_⟩
  -- the end of it, whether it grew or not
  have fin : ∀ (h0 : Hp) (o2 : List Nat) (a2 : Option Addr) (len2 cap2 fr2 : Nat) (o2' : List Nat) (sp2 : List Int), Raw h0 b most xs o2 a2 len2 cap2 fr2 o2' sp2 → xs.length < len2 → Step o h o2 h0 →
      ∃ sb cs, a2 = some ⟨sb, 0, none⟩ ∧ sb ≠ b ∧ h0 sb = some (.cells cs T.int (0, 0)) ∧ (fr2 + xs.length) % len2 < len2 ∧ (∃ u, cs[(fr2 + xs.length) % len2]? = some u) ∧
        K (.int .i64 0) ((h0.put sb (.cells (cs.setIfInBounds ((fr2 + xs.length) % len2) (.int .i64 x)) T.int (0, 0))).put b (.cells #[.int .i64 most, .slice a2 len2 cap2, .int .i64 fr2, .int .i64 (xs.length + 1)] T.ring_Ring_int (0, 0))) := by
    intro h0 o2 a2 len2 cap2 fr2 o2' sp2 ⟨hb, hs, ho, hbo, h3, h4, h5, h6⟩ hlt st
    have hmod : (fr2 + xs.length) % len2 < len2 := Nat.mod_lt _ (by omega)
    have hsl := hs.length
    rw [ints_length, Nat.mul_one] at hsl
    obtain ⟨sb, cs, rfl, rfl, hsb, hc, hset⟩ := hs.cell hmod
    have hne : sb ≠ b := fun e => hbo (by simp [e])
    refine ⟨sb, cs, rfl, hne, hsb, hmod, ?_, hk o2 _ ⟨⟨some ⟨sb, 0, none⟩, len2, cap2, fr2, [sb], sp2.set ((fr2 + xs.length) % len2) x, ⟨by rw [put_self]; simp, ?_, ho, hbo, by simp; omega, h4, h5, fun i hi => ?_⟩⟩, m1, m2⟩ ?_⟩
    · rw [cell_of hsb] at hc
      rw [hc, ints_get]
      rw [List.getElem?_eq_getElem (by omega)]
      exact ⟨_, rfl⟩
    · show Ints _ _ _ _ _ _
      rw [Ints, ints_set]
      exact (hset h0 _ fun _ _ => rfl).keep fun k hk => by simp at hk; subst hk; exact put_ne hne
    · have hl2 : (fr2 + i) % len2 < sp2.length := by rw [hsl]; exact Nat.mod_lt _ (by omega)
      rw [set_get hl2]
      simp at hi
      by_cases hi' : i = xs.length
      · subst hi'; simp
      · rw [if_neg (fun e => hi' (mod_inj (by omega) hlt e)), h6 i (by omega), List.getElem?_append_left (by omega)]
    · exact st.trans ((Step.put (.inl (by rw [ho]; simp))).trans (Step.put (.inl (by rw [ho]; simp))))
  have num : ∀ (fr2 len2 : Nat), fr2 < 65536 * 2 → Int.tmod (IntKind.wrap .i64 ((fr2 : Int) + (xs.length : Int))) (len2 : Int) = (((fr2 + xs.length) % len2 : Nat) : Int) := by
    intro fr2 len2 hfr
    rw [wrap_id (by omega) (by omega), ← tmod_nat]; simp
  have w1 : IntKind.wrap .i64 ((xs.length : Int) + 1) = (xs.length : Int) + 1 := wrap_id (by omega) (by omega)
  refine bcase_intro (fun he => ?_) fun he => ?_
  · have he : xs.length = len := by simp at he; omega
    refine grow_spec (hw.ring m1 m2) hw he hf fun h0 o2 a2 len2 cap2 o2' sp2 hw2 hlt st => ?_
    obtain ⟨sb, cs, rfl, hne, hsb, hmod, ⟨u, hu⟩, hK⟩ := fin h0 _ _ _ _ _ _ _ hw2 hlt st
    have hb2 := hw2.1
    simp only [Nat.zero_add] at hmod hu hK
    refine ⟨_, _, _, by rw [cell_of hb2]; rfl, _, by rw [cell_of hb2]; rfl, _, by rw [cell_of hb2]; rfl, _, _, _, by rw [cell_of hb2]; rfl, by omega, ?_⟩
    rw [num 0 len2 (by omega)]
    simp only [someD_some, Addr.add_mk, Nat.zero_add, Int.toNat_natCast, Nat.mul_one, setCell_of hsb]
    have hb3 := put_block (b := sb) (o := .cells (cs.setIfInBounds (xs.length % len2) (.int .i64 x)) T.int (0, 0)) hb2 (Ne.symm hne)
    refine ⟨by omega, by omega, ⟨u, by rw [cell_of hsb, ← hu]⟩, frozen_of hsb, _, by rw [cell_of hb3]; rfl, ?_⟩
    rw [setCell_of hb3, w1]
    exact ⟨⟨_, by rw [cell_of hb3]; rfl⟩, frozen_of hb3, hK⟩
  · have hlt : xs.length < len := by simp at he; have := hw.2.2.2.2.1; omega
    obtain ⟨sb, cs, rfl, hne, hsb, hmod, ⟨u, hu⟩, hK⟩ := fin h _ _ _ _ _ _ _ hw hlt (Step.refl _ _)
    have hfr : fr < 65536 * 2 := by have := hw.2.2.2.2.2; omega
    refine ⟨_, _, _, by rw [cell_of hb]; rfl, _, by rw [cell_of hb]; rfl, _, by rw [cell_of hb]; rfl, _, _, _, by rw [cell_of hb]; rfl, by omega, ?_⟩
    rw [num fr len hfr]
    simp only [someD_some, Addr.add_mk, Nat.zero_add, Int.toNat_natCast, Nat.mul_one, setCell_of hsb]
    have hb3 := put_block (b := sb) (o := .cells (cs.setIfInBounds ((fr + xs.length) % len) (.int .i64 x)) T.int (0, 0)) hb (Ne.symm hne)
    refine ⟨by omega, by omega, ⟨u, by rw [cell_of hsb, ← hu]⟩, frozen_of hsb, _, by rw [cell_of hb3]; rfl, ?_⟩
    rw [setCell_of hb3, w1]
    exact ⟨⟨_, by rw [cell_of hb3]; rfl⟩, frozen_of hb3, hK⟩

theorem Take_none {h : Hp} {b most : Nat} {o : List Nat} {K : Value → Hp → Prop} (hr : RingAt h b most [] o) (hk : K (.tuple #[.int .i64 0, .int .i64 12]) h) :
    HC P ring_Ring_Take.n #[.pointer (some ⟨b, 0, none⟩)] h K := by
  refine ring_Ring_Take.hc ?_
  unfold ring_Ring_Take
  exact At_none hr (.inr (by simp)) ⟨_, _, rfl, hk⟩

theorem Take_nil {h : Hp} {K : Value → Hp → Prop} (hk : K (.tuple #[.int .i64 0, .int .i64 12]) h) : HC P ring_Ring_Take.n #[.pointer none] h K := by
  refine ring_Ring_Take.hc ?_
  unfold ring_Ring_Take
  exact At_nil ⟨_, _, rfl, hk⟩

theorem Take_some {h : Hp} {b most : Nat} {x : Int} {ys : List Int} {o : List Nat} {K : Value → Hp → Prop} (hr : RingAt h b most (x :: ys) o)
    (hk : ∀ h', RingAt h' b most ys o → Step o h o h' → K (.tuple #[.int .i64 x, .int .i64 0]) h') : HC P ring_Ring_Take.n #[.pointer (some ⟨b, 0, none⟩)] h K := by
  refine ring_Ring_Take.hc ?_
  unfold ring_Ring_Take
  refine At_some (i := 0) hr rfl ⟨_, _, rfl, ?_⟩
  obtain ⟨⟨a, len, cap, fr, o', sp, hb, hs, rfl, hbo, h3, h4, h5, h6⟩, m1, m2⟩ := hr
  have hl1 : 1 ≤ len := by simp at h3; omega
  have hfr : fr < len := by omega
  have hsl := hs.length
  rw [ints_length, Nat.mul_one] at hsl
  simp only [BEq.rfl, bcase_true, someD_some, Addr.add_mk, Nat.zero_add]
  refine ⟨_, _, _, by rw [cell_of hb]; rfl, _, by rw [cell_of hb]; rfl, by omega, by omega, ?_⟩
  obtain ⟨sb, cs, rfl, rfl, hsb, hc, hset⟩ := hs.cell hfr
  have hne : sb ≠ b := fun e => hbo (by simp [e])
  rw [cell_of hsb, ints_get, List.getElem?_eq_getElem (by omega)] at hc
  simp only [someD_some, Addr.add_mk, Nat.zero_add, Int.toNat_natCast, Nat.mul_one, setCell_of hsb]
  have hb2 := put_block (b := sb) (o := .cells (cs.setIfInBounds fr (.int .i64 0)) T.int (0, 0)) hb (Ne.symm hne)
  refine ⟨⟨_, by rw [cell_of hsb]; exact hc⟩, frozen_of hsb, _, by rw [cell_of hb2]; rfl, _, _, _, by rw [cell_of hb2]; rfl, by omega, ⟨_, by rw [cell_of hb2]; rfl⟩, frozen_of hb2, ?_⟩
  have hn : Int.tmod (IntKind.wrap .i64 ((fr : Int) + 1)) (len : Int) = (((fr + 1) % len : Nat) : Int) := by
    rw [wrap_id (by omega) (by omega), ← tmod_nat]; simp
  rw [hn, setCell_of hb2]
  simp only [setCell_of put_self, put_put]
  refine ⟨_, by rw [cell_of put_self]; rfl, ⟨_, by rw [cell_of put_self]; rfl⟩, frozen_of put_self, ?_⟩
  have w1 : IntKind.wrap .i64 (((x :: ys).length : Int) - 1) = (ys.length : Int) := by simp at h3 ⊢; rw [wrap_id (by omega) (by omega)]
  rw [w1]
  have hmod : (fr + 1) % len < len := Nat.mod_lt _ (by omega)
  refine hk _ ⟨⟨some ⟨sb, 0, none⟩, len, cap, (fr + 1) % len, [sb], sp.set fr 0, ⟨by rw [put_self]; simp, ?_, rfl, hbo, by simp at h3; omega, h4, .inl hmod, fun i hi => ?_⟩⟩, m1, m2⟩ ?_
  · rw [Ints, ints_set]
    exact (hset h _ fun _ _ => rfl).keep fun k hk => by simp at hk; subst hk; exact put_ne hne
  · have e1 : ((fr + 1) % len + i) % len = (fr + (i + 1)) % len := by rw [Nat.mod_add_mod]; congr 1; omega
    rw [e1, set_get (by rw [hsl]; exact Nat.mod_lt _ (by omega))]
    rw [if_neg (fun e => by
      have := mod_inj (fr := fr) (n := len) (i := i + 1) (j := 0) (by simp at h3; omega) (by omega) (by rw [e, Nat.add_zero, Nat.mod_eq_of_lt hfr])
      omega)]
    rw [h6 (i + 1) (by simp; omega)]; rfl
  · exact (Step.put (.inl (by simp))).trans (Step.put (.inl (by simp)))

theorem Back_1_spec {h : Hp} {b most fb l : Nat} {xs : List Int} {o p : List Nat} {K : Value → Hp → Prop} {I : Nat → List Nat → Hp → Prop} (hr : RingAt h b most xs o)
    (hf : h.cell? ⟨fb, 0, none⟩ = some (.pointer (some ⟨b, 0, none⟩))) (hp : ∀ k ∈ p, h k ≠ none) (h0 : ∀ h', Step [] h [] h' → I 0 p h')
    (hy : ∀ i x iv o' h', xs.reverse[i]? = some x → I i o' h' → HY P l #[.int .i64 iv, .int .i64 x] h' fun v h'' =>
      ∃ o'', Step o' h' o'' h'' ∧ ((v = .bool true ∧ I (i + 1) o'' h'') ∨ (v = .bool false ∧ K (.tuple #[]) h'')))
    (hk : ∀ o' h', I xs.reverse.length o' h' → K (.tuple #[]) h') : HC P ring_Ring_Back_1.n #[.func (.yield l) #[] #[], .pointer (some ⟨fb, 0, none⟩)] h K := by
  refine ring_Ring_Back_1.hc ?_
  unfold ring_Ring_Back_1
  have hbig : xs.length ≤ 65536 := by obtain ⟨⟨a, len, cap, fr, o', sp, hb, hs, rfl, hbo, h3, h4, h5, h6⟩, h1, h2⟩ := hr; omega
  simp only [someD_some]
  refine ⟨_, hf, now_spec hr fun a cap o1 h1 hs1 st1 => ⟨_, _, _, rfl, ?_⟩⟩
  have hd : ∀ k ∈ o1, k ∉ p := fun k hk hm => by
    rcases st1.own k hk with hx | hx
    · simp at hx
    · exact hp k hm hx
  refine ⟨fun vs h2 => ∃ i o', vs = [.int .i64 ((xs.length : Int) - 1 - (i : Nat))] ∧ Ints h2 a xs.length cap xs o1 ∧ (∀ k ∈ o1, k ∉ o') ∧ I i o' h2 ∧ i ≤ xs.length,
    fun vs _ => match vs with | [.int _ i] => (i + 1).toNat | _ => 0, ⟨0, p, by rw [wrap_id (by omega) (by omega)]; simp, hs1, hd, h0 _ (st1.weak (fun _ hk => hk) (by simp)), by omega⟩, ?_⟩
  rintro h2 i ⟨j, o', he, hs2, hd2, hI, hj⟩
  cases he
  refine bcase_intro (fun hc => ?_) fun hc => ?_
  · have hc : j < xs.length := by simp at hc; omega
    obtain ⟨n, hn⟩ : ∃ n : Nat, n = xs.length - 1 - j := ⟨_, rfl⟩
    have hn' : (xs.length : Int) - 1 - (j : Nat) = (n : Nat) := by omega
    rw [hn']
    have hnl : n < xs.length := by omega
    obtain ⟨sb, cs, rfl, rfl, -, hcell, -⟩ := hs2.cell hnl
    simp only [someD_some, Addr.add_mk, Nat.zero_add]
    refine ⟨by omega, by omega, _, by rw [Int.toNat_natCast, Nat.mul_one, hcell, ints_get, List.getElem?_eq_getElem hnl]; rfl, ?_⟩
    have hx : xs.reverse[j]? = some xs[n] := by
      rw [List.getElem?_reverse (by omega), ← hn, List.getElem?_eq_getElem hnl]
    refine (hy j _ _ o' h2 hx hI).mono ?_
    rintro v h3 ⟨o'', st, ⟨rfl, hI'⟩ | ⟨rfl, hK⟩⟩
    · have hw : IntKind.wrap .i64 ((n : Int) - 1) = (xs.length : Int) - 1 - ((j + 1 : Nat) : Int) := by rw [wrap_id (by omega) (by omega)]; omega
      refine ⟨_, rfl, ?_⟩
      simp only [bcase_true, hw]
      refine ⟨⟨j + 1, o'', rfl, hs2.keep fun k hk => st.keep k (hs2.mem k hk) (hd2 k hk), st.disj hs2.mem hd2, hI', by omega⟩, ?_⟩
      show ((xs.length : Int) - 1 - ((j + 1 : Nat) : Int) + 1).toNat < ((n : Int) + 1).toNat
      omega
    · exact ⟨_, rfl, hK⟩
  · obtain rfl : j = xs.length := by simp at hc; omega
    refine hk o' _ ?_
    rw [List.length_reverse]; exact hI

/-- What a slice of numbers tells. -/
def IntsR (h : Hp) (a : Option Addr) (len : Nat) (xs : List Int) : Prop := xs.length = len ∧ ∀ i x, xs[i]? = some x → ∃ p, a = some p ∧ h.cell? (p.add i) = some (.int .i64 x)

theorem ints_r {h : Hp} {a : Option Addr} {len cap : Nat} {xs : List Int} {o : List Nat} (hs : Ints h a len cap xs o) : IntsR h a len xs := by
  have hl := hs.length
  rw [ints_length, Nat.mul_one] at hl
  refine ⟨hl, fun i x hx => ?_⟩
  have hi : i < len := by rw [← hl]; exact (List.getElem?_eq_some_iff.1 hx).1
  obtain ⟨sb, cs, rfl, rfl, -, hcell, -⟩ := hs.cell hi
  refine ⟨_, rfl, ?_⟩
  rw [Addr.add_mk, Nat.zero_add, hcell, ints_get, hx]; rfl

theorem SameInts_spec {h : Hp} {a a2 : Option Addr} {n n2 c c2 : Nat} {xs ys : List Int} {K : Value → Hp → Prop} (h1 : IntsR h a n xs) (h2 : IntsR h a2 n2 ys) (hn : n < 2 ^ 62)
    (hk : K (.bool (decide (xs = ys))) h) : HC P ref01_SameInts.n #[.slice a n c, .slice a2 n2 c2] h K := by
  refine ref01_SameInts.hc ?_
  unfold ref01_SameInts
  obtain ⟨l1, g1⟩ := h1
  obtain ⟨l2, g2⟩ := h2
  refine bcase_intro (fun hne => ?_) fun he => ?_
  · have : ¬ xs = ys := fun e => by subst e; simp at hne; omega
    simpa [this] using hk
  · have he : n = n2 := by simp at he; omega
    refine ⟨fun vs h' => ∃ i bb, vs = [.bool bb, .int .i64 (i : Nat)] ∧ h' = h ∧ i ≤ n ∧ ∀ j, j < i → xs[j]? = ys[j]?, fun vs _ => match vs with | [_, .int _ i] => n - i.toNat | _ => 0, ⟨0, false, rfl, rfl, by omega, by omega⟩, ?_⟩
    rintro h' b i ⟨j, bb, he', rfl, hj, hall⟩
    cases he'
    refine bcase_intro (fun hc => ?_) fun hc => ?_
    · have hc : j < n := by simpa using hc
      have e1 : xs[j]? = some xs[j] := List.getElem?_eq_getElem (by omega)
      have e2 : ys[j]? = some ys[j] := List.getElem?_eq_getElem (by omega)
      obtain ⟨p, rfl, hp⟩ := g1 j _ e1
      obtain ⟨q, rfl, hq⟩ := g2 j _ e2
      refine ⟨by omega, by omega, _, by rw [Int.toNat_natCast, Nat.mul_one]; exact hp, by omega, by omega, _, by rw [Int.toNat_natCast, Nat.mul_one]; exact hq, ?_⟩
      refine bcase_intro (fun hne => ?_) fun heq => ?_
      · have : ¬ xs = ys := fun e => by subst e; simp at hne
        simpa [this] using hk
      · have hw : IntKind.wrap .i64 ((j : Int) + 1) = ((j + 1 : Nat) : Int) := by rw [wrap_id (by omega) (by omega)]; omega
        rw [hw]
        refine ⟨⟨j + 1, b, rfl, rfl, by omega, fun k hk => ?_⟩, ?_⟩
        · by_cases hkj : k = j
          · subst hkj; rw [e1, e2]; simpa using heq
          · exact hall k (by omega)
        · show n - (j + 1) < n - j
          omega
    · have hc : j = n := by simp at hc; omega
      have : xs = ys := by
        apply List.ext_getElem?
        intro i
        by_cases hi : i < n
        · exact hall i (by omega)
        · rw [List.getElem?_eq_none (by omega), List.getElem?_eq_none (by omega)]
      simpa [this] using hk

theorem Pick_spec {h : Hp} {x n : Int} {K : Value → Hp → Prop} (hn : 1 ≤ n) (hN : n < 2 ^ 62) (hk : ∀ k : Nat, (k : Int) < n → K (.int .i64 k) h) : HC P ref01_Pick.n #[.int .i64 x, .int .i64 n] h K := by
  refine ref01_Pick.hc ?_
  unfold ref01_Pick
  have hlt : Int.tmod x n < n := Int.tmod_lt_of_pos x (by omega)
  have hgt : -n < Int.tmod x n := by exact Int.lt_tmod_of_pos x (by omega)
  refine bcase_intro (fun hc => by simp at hc; omega) fun _ => ⟨by omega, bcase_intro (fun hc => ?_) fun hc => ?_⟩
  · have hc : Int.tmod x n < 0 := by simpa using hc
    rw [wrap_id (by omega) (by omega)]
    have := hk (Int.tmod x n + n).toNat (by omega)
    rwa [show (((Int.tmod x n + n).toNat : Nat) : Int) = Int.tmod x n + n by omega] at this
  · have hc : 0 ≤ Int.tmod x n := by simpa using hc
    have := hk (Int.tmod x n).toNat (by omega)
    rwa [show (((Int.tmod x n).toNat : Nat) : Int) = Int.tmod x n by omega] at this

end Go.Den.Ring
