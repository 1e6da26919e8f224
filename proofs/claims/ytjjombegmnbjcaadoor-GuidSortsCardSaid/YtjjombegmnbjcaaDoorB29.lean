import Derived.Test.YtjjombegmnbjcaaDoorDenR
import Derived.Lib.TrimUEq
/- Texts that the claim needs, joined. -/
section
set_option linter.unusedVariables false
set_option maxRecDepth 100000
namespace Go.Den.Guid
open Go Go.Den Go.Sort
variable {h : Hp} {K : Value → Hp → Prop}
theorem slGuid : SliceTy P T.sl_api_Guid T.api_Guid 16 := sliceTy_of (by kernel_rfl)
theorem ocs_cellish {l : List Gd} : ∀ v ∈ ocs l, cellish v = true := fun v hv => by
  obtain ⟨o, -, hv⟩ := List.mem_flatMap.1 hv
  exact oc_cellish v hv
theorem ocs_snoc {l : List Gd} {x : Gd} : ocs (l ++ [x]) = ocs l ++ oc x := by simp [ocs]
theorem srcG {a : Option Addr} {n c : Nat} {l : List Gd} (hs : SrcAt h 16 (.slice a n c) n (ocs l)) (ok : ∀ o ∈ l, o.Ok) (hl : l.length = n) {i : Nat} (hi : i < n) :
    ∃ p, a = some p ∧ h p.block ≠ none ∧ ∀ (h' : Hp), h' p.block = h p.block → CellsAt h' (p.add (i * 16)) 16 (gcs (l[i]'(by omega)).v) := by
  generalize hv : ocs l = vs at hs
  cases hs with
  | none => omega
  | @some p _ _ cs hc =>
    subst hv
    have hcell : ∀ j, j < 16 → h.cell? (p.add (i * 16 + j)) = (oc (l[i]'(by omega)))[j]? := fun j hj => by
      have hg : l[i]? = some (l[i]'(by omega)) := List.getElem?_eq_getElem _
      have e : (ocs l)[i * 16 + j]? = (oc (l[i]'(by omega)))[j]? := by
        rw [ocs_split hg]
        have lt : (ocs (l.take i)).length = i * 16 := by
          rw [flatMap_len fun o ho => ok o (List.mem_of_mem_take ho), List.length_take]; congr 1; omega
        rw [List.getElem?_append_right (by omega), lt, show i * 16 + j - i * 16 = j by omega, List.getElem?_append_left (by rw [oc_len (ok _ (List.getElem_mem _))]; exact hj)]
      have hj' : j < (oc (l[i]'(by omega))).length := by rw [oc_len (ok _ (List.getElem_mem _))]; exact hj
      rw [List.getElem?_eq_getElem hj'] at e ⊢
      exact hc.2 _ _ (by rw [List.getElem?_toArray]; exact e)
    refine ⟨p, rfl, fun e => ?_, fun h' e => ⟨by rw [gcs_size]; exact (ok _ (List.getElem_mem _)).1, fun j v hv => ?_⟩⟩
    · have := hcell 0 (by omega)
      rw [List.getElem?_eq_getElem (by rw [oc_len (ok _ (List.getElem_mem _))]; omega)] at this
      unfold Hp.cell? at this
      rw [Addr.add_block, e] at this
      cases this
    · have hj : j < 16 := by
        have := (Array.getElem?_eq_some_iff.1 hv).1
        rw [gcs_size, (ok _ (List.getElem_mem _)).1] at this; exact this
      have e2 : (p.add (i * 16)).add j = p.add (i * 16 + j) := add_add
      rw [e2, ← cell_block (h := h) (Addr.add_block p _) (by rw [e]), hcell j hj]
      rw [← hv]
      show _ = (gcs _)[j]?
      unfold gcs
      rw [List.getElem?_toArray]; rfl

theorem collect_spec {bF n c : Nat} {a : Option Addr} {l : List Gd} (hF : h bF = some (.cells #[.slice a n c] T.sl_api_Guid (0, 0))) (hs : SrcAt h 16 (.slice a n c) n (ocs l)) (ok : ∀ o ∈ l, o.Ok) (hl : l.length = n) (hn : n ≤ 1000000)
    (hk : ∀ a' c' o' h', SlAt h' T.api_Guid 16 AnyV a' n c' (ocs l) o' → Step [] h o' h' → K (.slice a' n c') h') :
    HC P slices_Collect_api_Guid.n #[.func (.func slices_Values_api_Guid_api_Guid_1.n) #[] #[.pointer (some ⟨bF, 0, none⟩)]] h K := by
  refine slices_Collect_api_Guid.hc ?_
  unfold slices_Collect_api_Guid
  refine slices_AppendSeq_api_Guid_api_Guid.hc ?_
  unfold slices_AppendSeq_api_Guid_api_Guid
  intro b0 hb0
  refine trueD_intro (by kernel_rfl) ?_
  intro l0 R0 hl0 hy
  obtain ⟨nl0, hl0'⟩ := put_none hl0
  refine slices_Values_api_Guid_api_Guid_1.hc ?_
  unfold slices_Values_api_Guid_api_Guid_1
  rw [someD_some]
  obtain ⟨H0, hH0⟩ : ∃ H0, H0 = (h.put b0 (.cells #[.slice none 0 0] T.sl_api_Guid (0, 0))).put l0 R0.ready := ⟨_, rfl⟩
  rw [← hH0]
  have st0 : Step [] h [b0, l0] H0 := by
    rw [hH0]
    have s1 : Step [] h [b0] (h.put b0 (.cells #[.slice none 0 0] T.sl_api_Guid (0, 0))) := Step.new hb0
    exact s1.trans ((Step.new (o := [b0]) (x := R0.ready) hl0).weak (fun _ hk => hk) fun k hk => .inl (by simp at hk ⊢; rcases hk with rfl | rfl <;> simp))
  have F0 : H0 bF = some (.cells #[.slice a n c] T.sl_api_Guid (0, 0)) := st0.block hF (by simp)
  obtain ⟨I0, hI0⟩ : ∃ I0 : List Value → Hp → Prop, I0 = fun vs hh => ∃ (i : Nat) (a' : Option Addr) (c' : Nat) (o : List Nat), vs = [.int .i64 (i : Int)] ∧ i ≤ n ∧ hh l0 = some R0.ready ∧ hh b0 = some (.cells #[.slice a' i c'] T.sl_api_Guid (0, 0)) ∧ SlAt hh T.api_Guid 16 AnyV a' i c' (ocs (l.take i)) o ∧ l0 ∉ o ∧ b0 ∉ o ∧ Step [] h (o ++ [b0, l0]) hh := ⟨_, rfl⟩
  obtain ⟨x0, hx0⟩ : ∃ x0 : List Value → Hp → Nat, x0 = fun vs _ => match vs with | [.int _ i] => n - i.toNat | _ => 0 := ⟨_, rfl⟩
  refine ⟨a, n, c, by rw [cell_of F0]; rfl, I0, x0, ?_, ?_⟩
  · rw [hI0]
    exact ⟨0, none, 0, [], rfl, by omega, by rw [hH0, put_self], by rw [hH0, put_ne (Ne.symm nl0), put_self], .none, by simp, by simp, st0⟩
  intro hh n1 hin
  rw [hI0] at hin
  obtain ⟨i, a1, c1, o, he, hi, L0, Bb, sl, nlo, nbo, st⟩ := hin
  have e0 : n1 = (i : Int) := by cases he; rfl
  clear he
  subst e0
  refine bcase_intro (fun hc => ?_) fun hc => ?_
  · have hc : i < n := by have := of_decide_eq_true hc; omega
    obtain ⟨p, rfl, hpb, hcells⟩ := srcG hs ok hl hc
    unfold slices_Values_api_Guid_api_Guid_1.k2
    rw [someD_some, Int.toNat_natCast]
    have hg : (l[i]'(by omega)).Ok := ok _ (List.getElem_mem _)
    obtain ⟨g, hgd⟩ : ∃ g, g = l[i]'(by omega) := ⟨_, rfl⟩
    rw [← hgd] at hcells hg
    refine ⟨by omega, by omega, _, hcells hh (st.keep _ hpb (by simp)), ?_⟩
    intro bN hbN
    have sz : (gcs g.v).size = 16 := by rw [gcs_size]; exact hg.1
    have e1 := newG (g := g.v) (z := z16) hg.1 rfl hbN
    rw [gcs_z16] at e1
    rw [e1]
    refine ⟨sz, gcs_cellish, freeG, _, cellsAt_blk put_self sz, ?_⟩
    have nN0 : bN ≠ l0 := fun e => by rw [e, L0] at hbN; cases hbN
    have nNb : bN ≠ b0 := fun e => by rw [e, Bb] at hbN; cases hbN
    have nNo : ∀ k ∈ o, k ≠ bN := fun k hk e => sl.mem k hk (by rw [e]; exact hbN)
    refine hy (gcs g.v) _ _ (by rw [put_ne (Ne.symm nN0)]; exact L0) ?_
    intro b1 hb1
    obtain ⟨n1N, hb1'⟩ := put_none hb1
    have n10 : b1 ≠ l0 := fun e => by rw [e, L0] at hb1'; cases hb1'
    have n1b : b1 ≠ b0 := fun e => by rw [e, Bb] at hb1'; cases hb1'
    have n1o : ∀ k ∈ o, k ≠ b1 := fun k hk e => sl.mem k hk (by rw [e]; exact hb1')
    have e2 := newG (g := g.v) (z := z16) hg.1 rfl hb1
    rw [gcs_z16] at e2
    rw [e2]
    have nlb : l0 ≠ b0 := nl0
    refine ⟨sz, gcs_cellish, freeG, by rw [put_ne (Ne.symm n10), put_ne (Ne.symm nN0)]; exact L0, a1, i, c1, ?_⟩
    obtain ⟨X, hX⟩ : ∃ X, X = ((hh.put bN (.cells (gcs g.v) T.api_Guid (0, 0))).put b1 (.cells (gcs g.v) T.api_Guid (0, 0))).put l0 R0.busy := ⟨_, rfl⟩
    rw [← hX]
    have Xb : X b0 = some (.cells #[.slice a1 i c1] T.sl_api_Guid (0, 0)) := by rw [hX, put_ne (Ne.symm nlb), put_ne (Ne.symm n1b), put_ne (Ne.symm nNb)]; exact Bb
    have Xl : X l0 = some R0.busy := by rw [hX, put_self]
    have Xs : SlAt X T.api_Guid 16 AnyV a1 i c1 (ocs (l.take i)) o := sl.keep fun k hk => by rw [hX, put_ne (fun e => nlo (by rw [← e]; exact hk)), put_ne (n1o k hk), put_ne (nNo k hk)]
    have X1 : X b1 = some (.cells (gcs g.v) T.api_Guid (0, 0)) := by rw [hX, put_ne n10, put_self]
    have Xst : Step [] h (o ++ [b0, l0]) X := by
      rw [hX]
      exact ((st.trans (Step.put (.inr hbN))).trans (Step.put (.inr hb1))).trans (Step.put (.inl (by simp)))
    refine ⟨by rw [cell_of Xb]; rfl, _, cellsAt_blk X1 sz, ⟨sz, gcs_cellish, trivial⟩, ?_⟩
    intro b2 hb2
    have n2o : ∀ k ∈ o, k ≠ b2 := fun k hk e => Xs.mem k hk (by rw [e]; exact hb2)
    have eC : (Array.mk (catA (gcs g.v) [])) = (oc g).toArray := by unfold catA gcs oc; simp
    rw [eC]
    refine append_wp (P := P) (Z := AnyV) (cs := oc g) (n := 1) slGuid slGuid.1 (Xs.keep fun k hk => put_ne (n2o k hk)) (fun _ _ _ _ _ _ => trivial) (.some ⟨by simp [oc_len hg], fun j v hv => by rw [Addr.add_mk, cell_of put_self, Nat.zero_add]; exact hv⟩) oc_cellish (by omega) fun a2 c2 o2 h1 s1 _ S1 => ⟨_, _, _, rfl, ?_⟩
    have S2 : Step o X o2 h1 := (Step.put (.inr hb2)).trans S1
    have dl : ∀ k, X k ≠ none → k ∉ o → k ∉ o2 := fun k hk hn hm => by
      rcases S2.own k hm with hm | hm
      · exact hn hm
      · exact hk hm
    have Hb : h1 b0 = some (.cells #[.slice a1 i c1] T.sl_api_Guid (0, 0)) := S2.block Xb nbo
    have Hl : h1 l0 = some R0.busy := S2.block Xl nlo
    unfold slices_AppendSeq_api_Guid_api_Guid.k0
    refine ⟨⟨_, by rw [cell_of Hb]; rfl⟩, frozen_of Hb, by rw [setCell_ne nlb]; exact Hl, true, rfl, ?_⟩
    unfold slices_Values_api_Guid_api_Guid_1.k1
    refine bcF rfl ?_
    unfold slices_Values_api_Guid_api_Guid_1.k0
    rw [wrapN (m := i + 1) (by simp) (by omega)]
    have nl2 : l0 ∉ o2 := dl l0 (by rw [Xl]; simp) nlo
    have nb2 : b0 ∉ o2 := dl b0 (by rw [Xb]; simp) nbo
    refine ⟨?_, ?_⟩
    · rw [hI0]
      refine ⟨i + 1, a2, c2, o2, rfl, by omega, put_self, ?_, ?_, nl2, nb2, ?_⟩
      · rw [put_ne (Ne.symm nlb), setCell_blk Hb]; rfl
      · have e : ocs (l.take (i + 1)) = ocs (l.take i) ++ oc g := by rw [List.take_add_one, List.getElem?_eq_getElem (by omega), ← hgd]; exact ocs_snoc
        rw [e]
        exact s1.keep fun k hk => by rw [put_ne (fun e => nl2 (by rw [← e]; exact hk)), setCell_ne (fun e => nb2 (by rw [← e]; exact hk))]
      · exact ((Xst.trans (S2.frame [b0, l0])).trans (Step.setCell Hb (by simp))).trans (Step.put (.inl (by simp)))
    · rw [hx0]
      show n - ((i + 1 : Nat) : Int).toNat < n - (i : Int).toNat
      omega
  · have hc : i = n := by have := of_decide_eq_false hc; omega
    subst hc
    unfold slices_AppendSeq_api_Guid_api_Guid.k1
    refine .inl ⟨L0, a1, i, c1, ?_, _, _, _, rfl, ?_⟩
    · rw [cell_of (by rw [put_ne (Ne.symm nl0)]; exact Bb)]; rfl
    · rw [List.take_of_length_le (by omega)] at sl
      refine hk a1 c1 o _ (sl.keep fun k hk => put_ne fun e => nlo (by rw [← e]; exact hk)) ((st.trans (Step.put (x := R0.over) (.inl (by simp)))).weak (fun _ h => h) fun k hk => .inl (by simp [hk]))

theorem sorted_spec {bF n c : Nat} {a : Option Addr} {l : List Gd} (hF : h bF = some (.cells #[.slice a n c] T.sl_api_Guid (0, 0))) (hs : SrcAt h 16 (.slice a n c) n (ocs l)) (ok : ∀ o ∈ l, o.Ok) (hl : l.length = n) (hn : n ≤ 1000000)
    (hk : ∀ a' c' h' l', l'.Perm l → osorted l' → SrcAt h' 16 (.slice a' n c') n (ocs l') → Step [] h [] h' → K (.slice a' n c') h') :
    HC P slices_SortedFunc_api_Guid.n #[.func (.func slices_Values_api_Guid_api_Guid_1.n) #[] #[.pointer (some ⟨bF, 0, none⟩)], .func (.func guid_Compare.n) #[] #[]] h K := by
  refine slices_SortedFunc_api_Guid.hc ?_
  unfold slices_SortedFunc_api_Guid
  refine collect_spec hF hs ok hl hn fun a' c' o' h' s1 st => ⟨_, _, _, rfl, ?_⟩
  unfold slices_SortedFunc_api_Guid.k0
  obtain ⟨cc, hcc⟩ : ∃ cc : Col, cc = fun k => if k ∈ o' then ((1, 0) : Rg) else z0 := ⟨_, rfl⟩
  have cin : ∀ k, k ∈ o' → cc k = ((1, 0) : Rg) := fun k hk => by rw [hcc]; exact if_pos hk
  have cout : ∀ k, k ∉ o' → cc k = z0 := fun k hk => by rw [hcc]; exact if_neg hk
  have nz : ((1, 0) : Rg) ≠ z0 := by decide
  have wf : WF h' cc := fun k hk => by
    by_cases hm : k ∈ o'
    · exact s1.mem k hm
    · exact absurd (cout k hm) hk
  subst hl
  refine srt_all (l := l) (by omega) ok h' cc (1, 0) a' c' _ nz ⟨o', s1, cin⟩ wf fun l' h2 hp hr sl2 ch => ?_
  refine hk a' c' h2 l' hp hr sl2.src ?_
  have S : Step o' h' [] h2 := ⟨fun k hk hn => (ch.keep k hk (by rw [cout k hn]; exact Ne.symm nz)).1, fun k hk => by simp at hk, ch.dom⟩
  exact st.trans S

theorem gSort_spec {n c : Nat} {a : Option Addr} {l : List Gd} (hs : SrcAt h 16 (.slice a n c) n (ocs l)) (ok : ∀ o ∈ l, o.Ok) (hl : l.length = n) (hn : n ≤ 1000000)
    (hk : ∀ a' c' h' l', l'.Perm l → osorted l' → SrcAt h' 16 (.slice a' n c') n (ocs l') → Step [] h [] h' → K (.slice a' n c') h') :
    HC P guid_Sort.n #[.slice a n c] h K := by
  refine guid_Sort.hc ?_
  unfold guid_Sort
  refine slices_Values_api_Guid_api_Guid.hc ?_
  unfold slices_Values_api_Guid_api_Guid
  intro bF hbF
  refine ⟨_, _, _, rfl, ?_⟩
  unfold guid_Sort.k0
  have st : Step [] h [] (h.put bF (.cells #[.slice a n c] T.sl_api_Guid (0, 0))) := Step.put (.inr hbF)
  have hs' : SrcAt (h.put bF (.cells #[.slice a n c] T.sl_api_Guid (0, 0))) 16 (.slice a n c) n (ocs l) := by
    generalize hv : ocs l = vs at hs
    cases hs with
    | none => exact .none
    | @some p _ _ cs hc =>
      refine .some ⟨hc.1, fun j v hv => ?_⟩
      have h1 := hc.2 j v hv
      rw [← h1]
      refine cell_block rfl (put_ne fun e => ?_)
      unfold Hp.cell? at h1
      rw [e, hbF] at h1
      cases h1
  exact sorted_spec put_self hs' ok hl hn fun a' c' h' l' p r s st' => ⟨_, _, _, rfl, hk a' c' h' l' p r s (st.trans st')⟩
end Go.Den.Guid
end

section
set_option linter.unusedVariables false
set_option maxRecDepth 100000
namespace Go.Den.Guid
open Go Go.Den Go.Sort
variable {h : Hp} {K : Value → Hp → Prop}
theorem src_put {h : Hp} {v : Value} {n sz b : Nat} {vs : List Value} {o : Obj} (hs : SrcAt h sz v n vs) (hb : h b = none) : SrcAt (h.put b o) sz v n vs := by
  cases hs with
  | none => exact .none
  | @some p _ _ cs hc =>
    refine .some ⟨hc.1, fun j v hv => ?_⟩
    have h1 := hc.2 j v hv
    rw [← h1]
    refine cell_block rfl (put_ne fun e => ?_)
    unfold Hp.cell? at h1
    rw [e, hb] at h1
    cases h1
def cnt (l : List Gd) (g : List Nat) (j : Nat) : Nat := (l.take j).countP fun x => decide (x.v = g)
theorem cnt_succ {l : List Gd} {g : List Nat} {j : Nat} (hj : j < l.length) : cnt l g (j + 1) = cnt l g j + if (l[j]'hj).v = g then 1 else 0 := by
  unfold cnt
  rw [List.take_add_one, List.getElem?_eq_getElem hj, List.countP_append]
  congr 1
  by_cases e : (l[j]'hj).v = g
  · simp [e]
  · simp [e]
theorem cnt_le {l : List Gd} {g : List Nat} {j : Nat} : cnt l g j ≤ j := by
  unfold cnt
  refine Nat.le_trans List.countP_le_length ?_
  rw [List.length_take]; omega
theorem cnt_perm {l l' : List Gd} {g : List Nat} {n : Nat} (hp : l'.Perm l) (hl : l.length = n) : cnt l' g n = cnt l g n := by
  unfold cnt
  rw [List.take_of_length_le (by rw [hp.length_eq]; omega), List.take_of_length_le (by omega)]
  exact hp.countP_eq _

theorem GuidSorts_holds {n c : Nat} {a : Option Addr} {l : List Gd} (hs : SrcAt h 16 (.slice a n c) n (ocs l)) (ok : ∀ o ∈ l, o.Ok) (hl : l.length = n) : HC P law01_GuidSorts.n #[.slice a n c] h (Holds h) := by
  refine law01_GuidSorts.hc ?_
  unfold law01_GuidSorts
  refine bcase_intro (fun hc => awake_spec fun h' s' => ⟨_, rfl, rfl, s'⟩) fun hc => ?_
  have h200 : n ≤ 200 := by have := of_decide_eq_false hc; omega
  unfold law01_GuidSorts.k18
  intro b1 hb1
  have w0 : SlAt (h.put b1 (.cells #[] T.api_Guid (0, 0))) T.api_Guid 16 AnyV (some ⟨b1, 0, none⟩) 0 0 [] [b1] := .some (pre := []) (rest := []) (post := []) (by rw [put_self]; rfl) rfl rfl rfl (Nat.le_refl _) (by simp)
  refine append_wp (P := P) (Z := AnyV) (cs := ocs l) (n := n) slGuid slGuid.1 w0 (fun _ _ _ _ _ _ => trivial) (src_put hs hb1) ocs_cellish (by omega) fun a1 c1 o1 h1 s1 _ S1 => ⟨a1, n, c1, by rw [Nat.zero_add], ?_⟩
  rw [Nat.zero_add, List.nil_append] at s1
  have st1 : Step [] h [] h1 := ((Step.new (x := .cells #[] T.api_Guid (0, 0)) hb1).trans S1).forget0
  unfold law01_GuidSorts.k17
  refine gSort_spec s1.src ok hl (by omega) fun a2 c2 h2 l' hp hr s2 st2 => ⟨_, _, _, rfl, ?_⟩
  have hl' : l'.length = n := by rw [hp.length_eq, hl]
  have ok' : ∀ o ∈ l', o.Ok := fun o ho => ok o (hp.mem_iff.1 ho)
  unfold law01_GuidSorts.k16
  refine bcF (by simp) ?_
  unfold law01_GuidSorts.k15
  obtain ⟨I0, hI0⟩ : ∃ I0 : List Value → Hp → Prop, I0 = fun vs hh => ∃ (bb : Bool) (i : Nat), vs = [.bool bb, .int .i64 (i : Int)] ∧ i ≤ n ∧ Step [] h2 [] hh := ⟨_, rfl⟩
  obtain ⟨x0, hx0⟩ : ∃ x0 : List Value → Hp → Nat, x0 = fun vs _ => match vs with | [_, .int _ i] => n - i.toNat | _ => 0 := ⟨_, rfl⟩
  refine ⟨I0, x0, by rw [hI0]; exact ⟨false, 0, rfl, by omega, Step.refl _ _⟩, ?_⟩
  intro h3 bb n2 hin
  rw [hI0] at hin
  obtain ⟨bb', i, he, hi, st3⟩ := hin
  cases he
  have T3 : Step [] h [] h3 := (st1.trans st2).trans st3
  refine bcase_intro (fun hc => ?_) fun hc => awake_spec fun h' s' => ⟨_, rfl, rfl, T3.trans s'⟩
  have hc : i < n := by have := of_decide_eq_true hc; omega
  have eqv : ∀ {x y : Gd}, aggEq (gcs x.v) (gcs y.v) = decide (x.v = y.v) := aggEq_gcs
  obtain ⟨p0, e0, q0, r0⟩ := srcG hs ok hl hc
  obtain ⟨p1, e1, q1, r1⟩ := srcG s1.src ok hl hc
  have hgi : (l[i]'(by omega)).Ok := ok _ (List.getElem_mem _)
  have inner : ∀ {h4 : Hp}, Step [] h3 [] h4 → ∃ I1 : List Value → Hp → Prop, (∃ x1 : List Value → Hp → Nat, (I1 [.int .i64 0, .int .i64 0, .int .i64 0] h4) ∧ (∀ h5 : Hp, (∀ n4 : Int, (∀ n5 : Int, (∀ n6 : Int, (I1 [.int .i64 n4, .int .i64 n5, .int .i64 n6] h5 → bcase (decide (n6 < (n : Int)))
      ((law01_GuidSorts.k6 n6 n a h5 i n a2 I1 n4 n5 x1))
      ((law01_GuidSorts.k8 n4 n5 (Holds h) h5 I0 bb i x0 h3)))))))) := by
    intro h4 st4
    obtain ⟨I1, hI1⟩ : ∃ I1 : List Value → Hp → Prop, I1 = fun vs hh => ∃ (j : Nat), vs = [.int .i64 (cnt l (l[i]'(by omega)).v j : Nat), .int .i64 (cnt l' (l[i]'(by omega)).v j : Nat), .int .i64 (j : Int)] ∧ j ≤ n ∧ hh = h4 := ⟨_, rfl⟩
    obtain ⟨x1, hx1⟩ : ∃ x1 : List Value → Hp → Nat, x1 = fun vs _ => match vs with | [_, _, .int _ i] => n - i.toNat | _ => 0 := ⟨_, rfl⟩
    refine ⟨I1, x1, by rw [hI1]; exact ⟨0, rfl, by omega, rfl⟩, ?_⟩
    intro h5 n4 n5 n6 hin
    rw [hI1] at hin
    obtain ⟨j, he, hj, rfl⟩ := hin
    have e4 : n4 = (cnt l (l[i]'(by omega)).v j : Nat) ∧ n5 = (cnt l' (l[i]'(by omega)).v j : Nat) ∧ n6 = (j : Int) := by cases he; exact ⟨rfl, rfl, rfl⟩
    clear he
    obtain ⟨rfl, rfl, rfl⟩ := e4
    have T5 : Step [] h [] h5 := T3.trans st4
    have c1le := cnt_le (l := l) (g := (l[i]'(by omega)).v) (j := j)
    have c2le := cnt_le (l := l') (g := (l[i]'(by omega)).v) (j := j)
    refine bcase_intro (fun hc2 => ?_) fun hc2 => ?_
    · have hc2 : j < n := by have := of_decide_eq_true hc2; omega
      obtain ⟨p2, e2, q2, r2⟩ := srcG hs ok hl hc2
      obtain ⟨p3, e3, q3, r3⟩ := srcG s2 ok' hl' hc2
      have hgj : (l[j]'(by omega)).Ok := ok _ (List.getElem_mem _)
      have hgj' : (l'[j]'(by omega)).Ok := ok' _ (List.getElem_mem _)
      have cI := r0 h5 (T5.keep _ q0 (by simp))
      have cJ := r2 h5 (T5.keep _ q2 (by simp))
      have cO := r3 h5 ((st3.trans st4).keep _ q3 (by simp))
      have s1' := cnt_succ (l := l) (g := (l[i]'(by omega)).v) (j := j) (by omega)
      have s2' := cnt_succ (l := l') (g := (l[i]'(by omega)).v) (j := j) (by omega)
      have wj : IntKind.wrap .i64 ((j : Int) + 1) = ((j + 1 : Nat) : Int) := wrapN (by omega) (by omega)
      have w4 : IntKind.wrap .i64 ((cnt l (l[i]'(by omega)).v j : Nat) + 1 : Int) = ((cnt l (l[i]'(by omega)).v j + 1 : Nat) : Int) := wrapN (by omega) (by omega)
      have w5 : IntKind.wrap .i64 ((cnt l' (l[i]'(by omega)).v j : Nat) + 1 : Int) = ((cnt l' (l[i]'(by omega)).v j + 1 : Nat) : Int) := wrapN (by omega) (by omega)
      have lesser : ∀ {v w v' w' : Value} {k k' : Hp}, x1 [v, w, .int .i64 ((j + 1 : Nat) : Int)] k < x1 [v', w', .int .i64 (j : Int)] k' := fun {v w v' w' k k'} => by
        rw [hx1]
        show n - ((j + 1 : Nat) : Int).toNat < n - (j : Int).toNat
        omega
      unfold law01_GuidSorts.k6
      rw [e0]
      simp only [someD_some, Int.toNat_natCast]
      have ep : p2 = p0 := by rw [e0] at e2; exact (Option.some.inj e2).symm
      rw [ep] at cJ
      refine ⟨by omega, by omega, _, cJ, by omega, by omega, _, cI, intCells_guid hgj.1, intCells_guid hgi.1, ?_⟩
      rw [eqv]
      refine bcase_intro (fun d1 => ?_) fun d1 => ?_
      · have d1 := of_decide_eq_true d1
        rw [if_pos d1] at s1'
        unfold law01_GuidSorts.k2
        rw [e3]
        simp only [someD_some, Int.toNat_natCast]
        refine ⟨by omega, by omega, _, cO, by omega, by omega, _, cI, intCells_guid hgj'.1, intCells_guid hgi.1, ?_⟩
        rw [eqv]
        refine bcase_intro (fun d2 => ?_) fun d2 => ?_
        · have d2 := of_decide_eq_true d2
          rw [if_pos d2] at s2'
          unfold law01_GuidSorts.k0
          rw [wj, w4, w5, ← s1', ← s2']
          exact ⟨by rw [hI1]; exact ⟨j + 1, rfl, by omega, rfl⟩, lesser⟩
        · have d2 := of_decide_eq_false d2
          rw [if_neg d2, Nat.add_zero] at s2'
          unfold law01_GuidSorts.k1
          rw [wj, w4, ← s1']
          exact ⟨by rw [hI1]; exact ⟨j + 1, by rw [s2']; rfl, by omega, rfl⟩, lesser⟩
      · have d1 := of_decide_eq_false d1
        rw [if_neg d1, Nat.add_zero] at s1'
        unfold law01_GuidSorts.k5
        rw [e3]
        simp only [someD_some, Int.toNat_natCast]
        refine ⟨by omega, by omega, _, cO, by omega, by omega, _, cI, intCells_guid hgj'.1, intCells_guid hgi.1, ?_⟩
        rw [eqv]
        refine bcase_intro (fun d2 => ?_) fun d2 => ?_
        · have d2 := of_decide_eq_true d2
          rw [if_pos d2] at s2'
          unfold law01_GuidSorts.k3
          rw [wj, w5, ← s2']
          exact ⟨by rw [hI1]; exact ⟨j + 1, by rw [s1']; rfl, by omega, rfl⟩, lesser⟩
        · have d2 := of_decide_eq_false d2
          rw [if_neg d2, Nat.add_zero] at s2'
          unfold law01_GuidSorts.k4
          rw [wj]
          exact ⟨by rw [hI1]; exact ⟨j + 1, by rw [s1', s2']; rfl, by omega, rfl⟩, lesser⟩
    · have hc2 : j = n := by have := of_decide_eq_false hc2; omega
      subst hc2
      unfold law01_GuidSorts.k8
      refine bcF (by rw [cnt_perm hp hl]; simp) ?_
      unfold law01_GuidSorts.k7
      rw [wrapN (m := i + 1) (by simp) (by omega)]
      refine ⟨by rw [hI0]; exact ⟨bb, i + 1, rfl, by omega, st3.trans st4⟩, ?_⟩
      rw [hx0]
      show j - ((i + 1 : Nat) : Int).toNat < j - (i : Int).toNat
      omega
  have cI := r0 h3 (T3.keep _ q0 (by simp))
  have c1 := r1 h3 ((st2.trans st3).keep _ q1 (by simp))
  unfold law01_GuidSorts.k14
  rw [e1, e0]
  simp only [someD_some, Int.toNat_natCast]
  rw [← e0]
  refine ⟨by omega, by omega, _, c1, by omega, by omega, _, cI, intCells_guid hgi.1, intCells_guid hgi.1, bcF (by rw [eqv]; simp) ?_⟩
  unfold law01_GuidSorts.k13
  refine bcase_intro (fun hpos => ?_) fun hpos => ?_
  · have hpos : 0 < i := by have := of_decide_eq_true hpos; omega
    obtain ⟨p4, e4, q4, r4⟩ := srcG s2 ok' hl' (i := i - 1) (by omega)
    obtain ⟨p5, e5, q5, r5⟩ := srcG s2 ok' hl' hc
    have ep : p5 = p4 := by rw [e4] at e5; exact (Option.some.inj e5).symm
    have c4 := r4 h3 (st3.keep _ q4 (by simp))
    have c5 := r5 h3 (st3.keep _ q5 (by simp))
    rw [ep] at c5
    unfold law01_GuidSorts.k11
    rw [wrapN (m := i - 1) (by omega) (by omega), e4]
    simp only [someD_some, Int.toNat_natCast]
    rw [← e4]
    refine ⟨by omega, by omega, _, c4, by omega, by omega, _, c5, rCompare_spec (ok' _ (List.getElem_mem _)) (ok' _ (List.getElem_mem _)) fun h4 st4 => ⟨_, rfl, ?_⟩⟩
    unfold law01_GuidSorts.k10
    have hle : ¬ 0 < lexN (l'[i - 1]'(by omega)).v (l'[i]'(by omega)).v := fun hgt => by
      have hso := List.pairwise_iff_getElem.1 hr (i - 1) i (by omega) (by omega) (by omega)
      have k1 := ok' _ (List.getElem_mem (l := l') (n := i - 1) (by omega))
      have k2 := ok' _ (List.getElem_mem (l := l') (n := i) (by omega))
      have := lexN_anti (a := (l'[i - 1]'(by omega)).v) (b := (l'[i]'(by omega)).v) (by rw [k1.1, k2.1])
      unfold olt ocmp at hso
      have hso := of_decide_eq_false hso
      omega
    refine bcF (decide_eq_false hle) ?_
    unfold law01_GuidSorts.k9
    exact inner st4
  · unfold law01_GuidSorts.k12
    exact inner (Step.refl _ _)
end Go.Den.Guid
end

section
set_option linter.unusedVariables false
set_option maxRecDepth 100000
namespace Go.Den.Guid
open Go Go.Den

/-! ### The places of what is printed -/
theorem pr_length {g : List Nat} : ∀ (k : Nat), (pr g k).length = at' k
  | 0 => rfl
  | k + 1 => by
    have ih := pr_length (g := g) k
    have hs : at' k + (sep k).length = pos k := by
      unfold sep
      cases hd : dash k with
      | true => simp [pos_dash hd]
      | false => simp [pos_plain hd]
    simp only [pr, List.length_append, hex2, List.length_cons, List.length_nil, ih]
    rw [at_succ]; omega
theorem pr_pre {g : List Nat} (k : Nat) : ∀ (m : Nat), ∃ t, pr g (k + m) = pr g k ++ t
  | 0 => ⟨[], by simp⟩
  | m + 1 => by
    obtain ⟨t, e⟩ := pr_pre k m
    refine ⟨t ++ (sep (k + m) ++ hex2 (g.getD (k + m) 0)), ?_⟩
    show pr g (k + m) ++ sep (k + m) ++ hex2 (g.getD (k + m) 0) = _
    rw [e]; simp
theorem prL_len {g : List Nat} : (prL g).length = 38 := by unfold prL; rw [List.length_append, pr_length]; rfl
theorem prL_at {g : List Nat} {k : Nat} (hk : k < 16) : (prL g).getD (pos k) 0 = hexc (g.getD k 0 / 16) ∧ (prL g).getD (pos k + 1) 0 = hexc (g.getD k 0 % 16) := by
  obtain ⟨t, e⟩ := pr_pre (g := g) (k + 1) (15 - k)
  have e16 : k + 1 + (15 - k) = 16 := by omega
  rw [e16] at e
  have hl : (pr g k ++ sep k).length = pos k := by
    rw [List.length_append, pr_length]
    unfold sep
    cases hd : dash k with
    | true => simp [pos_dash hd]
    | false => simp [pos_plain hd]
  have : prL g = (pr g k ++ sep k) ++ (hexc (g.getD k 0 / 16) :: hexc (g.getD k 0 % 16) :: (t ++ [125])) := by
    unfold prL; rw [e]; simp [pr, hex2]
  rw [this]
  constructor
  · rw [List.getD, List.getElem?_append_right (by omega), hl, Nat.sub_self]; rfl
  · rw [List.getD, List.getElem?_append_right (by omega), hl, show pos k + 1 - pos k = 1 by omega]; rfl
theorem hv_hexcs : ((List.range 16).all fun d => hv (hexc d).toNat == (d : Int)) = true := by decide +kernel
theorem hv_hexc {d : Nat} (hd : d < 16) : hv (hexc d).toNat = (d : Int) := by simpa using List.all_eq_true.1 hv_hexcs d (List.mem_range.2 hd)

/-! ### The signs that are printed -/
def Q (b : UInt8) : Prop := b = 123 ∨ b = 45 ∨ b = 125 ∨ ∃ d, d < 16 ∧ b = hexc d
theorem pr_Q {g : List Nat} (hg : ∀ x ∈ g, x < 256) : ∀ (k : Nat), ∀ b ∈ pr g k, Q b
  | 0, b, hb => by simp [pr] at hb; exact .inl hb
  | k + 1, b, hb => by
    have hx : g.getD k 0 < 256 := by
      rw [List.getD]
      cases e : g[k]? with
      | none => decide
      | some x => exact hg x (List.mem_of_getElem? e)
    rcases List.mem_append.1 hb with hb | hb
    · rcases List.mem_append.1 hb with hb | hb
      · exact pr_Q hg k b hb
      · unfold sep at hb
        split at hb
        · simp at hb; exact .inr (.inl hb)
        · simp at hb
    · simp only [hex2, List.mem_cons, List.not_mem_nil, or_false] at hb
      rcases hb with rfl | rfl
      · exact .inr (.inr (.inr ⟨_, by omega, rfl⟩))
      · exact .inr (.inr (.inr ⟨_, by omega, rfl⟩))
theorem prL_Q {g : List Nat} (hg : isG g) : ∀ b ∈ prL g, Q b := fun b hb => by
  rcases List.mem_append.1 hb with hb | hb
  · exact pr_Q hg.2 16 b hb
  · simp at hb; exact .inr (.inr (.inl hb))
theorem Q_nat {b : UInt8} (q : Q b) : b.toNat = 123 ∨ b.toNat = 45 ∨ b.toNat = 125 ∨ (48 ≤ b.toNat ∧ b.toNat ≤ 57) ∨ (97 ≤ b.toNat ∧ b.toNat ≤ 102) := by
  rcases q with rfl | rfl | rfl | ⟨d, hd, rfl⟩
  · exact .inl rfl
  · exact .inr (.inl rfl)
  · exact .inr (.inr (.inl rfl))
  · rw [hexc_toNat hd]; split <;> omega
theorem lower_nat (b : UInt8) : (Lib.lowerB b).toNat = if 65 ≤ b.toNat ∧ b.toNat ≤ 90 then b.toNat + 32 else b.toNat := by
  have e : Lib.isUpperB b = decide (65 ≤ b.toNat ∧ b.toNat ≤ 90) := by
    unfold Lib.isUpperB
    rw [Bool.eq_iff_iff, Bool.and_eq_true, decide_eq_true_iff, decide_eq_true_iff, decide_eq_true_iff, UInt8.le_iff_toNat_le, UInt8.le_iff_toNat_le]
    exact Iff.rfl
  unfold Lib.lowerB
  rw [e]
  by_cases h : 65 ≤ b.toNat ∧ b.toNat ≤ 90
  · rw [if_pos (by simpa using h), if_pos h, UInt8.toNat_add]
    show (b.toNat + 32) % 256 = _; omega
  · rw [if_neg (by simpa using h), if_neg h]
theorem lower_la {b : UInt8} (q : Q (la b)) : Lib.lowerB b = la b := by
  apply UInt8.toNat_inj.1
  have := Q_nat q
  rw [la_toNat] at this
  rw [lower_nat, la_toNat]
  by_cases h1 : 65 ≤ b.toNat ∧ b.toNat ≤ 70
  · rw [if_pos h1, if_pos (by omega)]
  · rw [if_neg h1] at this
    rw [if_neg h1, if_neg (by omega)]
theorem hv_la (b : UInt8) : hv (la b).toNat = hv b.toNat := by
  rw [la_toNat]
  split
  · rename_i h
    unfold hv
    rw [if_neg (by omega), if_pos (by omega), if_neg (by omega), if_neg (by omega), if_pos h]; omega
  · rfl

/-! ### What the document takes -/
def Acc (l : List UInt8) (g : List Nat) : Prop := l.map la = prL g
section
variable {l : List UInt8} {g : List Nat}
theorem Acc.len (a : Acc l g) : l.length = 38 := by have := congrArg List.length a; rwa [List.length_map, prL_len] at this
theorem Acc.Q (a : Acc l g) (hg : isG g) : ∀ b ∈ l, Q (la b) := fun b hb => prL_Q hg _ (by rw [← a]; exact List.mem_map_of_mem hb)
theorem Acc.low (a : Acc l g) (hg : isG g) : Lib.toLowerA l = prL g := by
  rw [← a]
  exact List.map_congr_left fun b hb => lower_la (a.Q hg b hb)
theorem Acc.hv (a : Acc l g) {p : Nat} (hp : p < 38) : hv (by' l p) = hv ((prL g).getD p 0).toNat := by
  have hl := a.len
  have e : (prL g).getD p 0 = la (l.getD p 0) := by
    rw [← a, List.getD, List.getD, List.getElem?_map, List.getElem?_eq_getElem (by omega)]; rfl
  rw [e, hv_la]; rfl
theorem Acc.dig (a : Acc l g) (hg : isG g) {i : Nat} (hi : i < 16) : Guid.hv (by' l (pos i)) = ((g.getD i 0 / 16 : Nat) : Int) ∧ Guid.hv (by' l (pos i + 1)) = ((g.getD i 0 % 16 : Nat) : Int) := by
  have hp := pos_lt hi
  have hx : g.getD i 0 < 256 := by
    rw [List.getD]
    cases e : g[i]? with
    | none => decide
    | some x => exact hg.2 x (List.mem_of_getElem? e)
  rw [a.hv (by omega), a.hv (by omega), (prL_at hi).1, (prL_at hi).2]
  exact ⟨hv_hexc (by omega), hv_hexc (by omega)⟩
theorem Acc.part (a : Acc l g) (hg : isG g) : part l 16 = g := by
  apply List.ext_getElem?
  intro j
  unfold Guid.part
  rw [List.getElem?_map]
  by_cases hj : j < 16
  · rw [List.getElem?_range hj, Option.map_some, if_pos hj, List.getElem?_eq_getElem (by rw [hg.1]; exact hj)]
    have h := a.dig hg hj
    have e : g.getD j 0 = g[j]'(by rw [hg.1]; exact hj) := by rw [List.getD, List.getElem?_eq_getElem]; rfl
    rw [e] at h
    unfold val
    rw [h.1, h.2]
    congr 1
    omega
  · rw [List.getElem?_eq_none (by simp; omega), List.getElem?_eq_none (by rw [hg.1]; omega)]; rfl
theorem Acc.acc (a : Acc l g) (hg : isG g) : acc l (Lib.toLowerA l) := ⟨a.len, fun i hi => by
  have h := a.dig hg hi
  exact ⟨by rw [h.1]; omega, by rw [h.2]; omega⟩, by rw [a.part hg, a.low hg]⟩
end

/-! ### What the document reads, digit by digit -/
theorem stp_no {q : Nat × List Nat} {b : UInt8} (h : hv b.toNat < 0) : stp q b = q := by unfold stp; rw [if_neg (by omega)]
def lead (g : List Nat) (k : Nat) : List Nat := (List.range 16).map fun j => if j < k then g.getD j 0 else 0
theorem lead_len {g : List Nat} {k : Nat} : (lead g k).length = 16 := by simp [lead]
theorem lead_get {g : List Nat} {k j : Nat} (hj : j < 16) : (lead g k).getD j 0 = if j < k then g.getD j 0 else 0 := by
  rw [List.getD, lead, List.getElem?_map, List.getElem?_range hj]; rfl
theorem lead_set {g : List Nat} {k : Nat} (hk : k < 16) : (lead g k).set k (g.getD k 0) = lead g (k + 1) := by
  apply List.ext_getElem?
  intro j
  rw [List.getElem?_set, lead_len]
  unfold lead
  rw [List.getElem?_map, List.getElem?_map]
  by_cases hj : j < 16
  · rw [List.getElem?_range hj]
    simp only [Option.map_some]
    by_cases e : k = j
    · subst e; rw [if_pos rfl, if_pos hk, if_pos (by omega)]
    · rw [if_neg e]
      congr 1
      by_cases h1 : j < k
      · rw [if_pos h1, if_pos (by omega)]
      · rw [if_neg h1, if_neg (by omega)]
  · rw [if_neg (by omega), List.getElem?_eq_none (by simp; omega)]; rfl
theorem stp_even {L : List Nat} {k d : Nat} (hk : k < 16) (hd : d < 16) (h0 : L.getD k 0 = 0) : stp (2 * k, L) (hexc d) = (2 * k + 1, L.set k d) := by
  unfold stp
  rw [hv_hexc hd, if_pos (by omega)]
  simp only [Int.toNat_natCast]
  rw [if_pos (by omega), show 2 * k / 2 = k by omega, h0, Nat.zero_mul, Nat.zero_add, Nat.mod_eq_of_lt (by omega)]
theorem stp_odd {L : List Nat} {k d m : Nat} (hk : k < 16) (hd : d < 16) (hm : m < 16) (hl : L.length = 16) : stp (2 * k + 1, L.set k d) (hexc m) = (2 * k + 2, L.set k (d * 16 + m)) := by
  unfold stp
  rw [hv_hexc hm, if_pos (by omega)]
  simp only [Int.toNat_natCast]
  have e : (L.set k d).getD k 0 = d := by rw [List.getD, List.getElem?_set, if_pos rfl, if_pos (by omega)]; rfl
  rw [if_pos (by omega), show (2 * k + 1) / 2 = k by omega, e, List.set_set, Nat.mod_eq_of_lt (by omega)]
theorem scan_pr {g : List Nat} (hg : ∀ x ∈ g, x < 256) : ∀ (k : Nat), k ≤ 16 → scan (pr g k) = (2 * k, lead g k)
  | 0, _ => rfl
  | k + 1, hk => by
    have ih := scan_pr hg k (by omega)
    have hx : g.getD k 0 < 256 := by
      rw [List.getD]
      cases e : g[k]? with
      | none => decide
      | some x => exact hg x (List.mem_of_getElem? e)
    have hs : scan (pr g k ++ sep k) = (2 * k, lead g k) := by
      unfold sep
      split
      · rw [scan_snoc, ih, stp_no (by decide)]
      · rw [List.append_nil, ih]
    have e : pr g (k + 1) = (pr g k ++ sep k ++ [hexc (g.getD k 0 / 16)]) ++ [hexc (g.getD k 0 % 16)] := by simp [pr, hex2]
    have s1 : stp (2 * k, lead g k) (hexc (g.getD k 0 / 16)) = (2 * k + 1, (lead g k).set k (g.getD k 0 / 16)) := stp_even (by omega) (by omega) (by rw [lead_get (by omega), if_neg (by omega)])
    have s2 : stp (2 * k + 1, (lead g k).set k (g.getD k 0 / 16)) (hexc (g.getD k 0 % 16)) = (2 * k + 2, (lead g k).set k (g.getD k 0)) := by
      rw [stp_odd (by omega) (by omega) (by omega) lead_len, show g.getD k 0 / 16 * 16 + g.getD k 0 % 16 = g.getD k 0 by omega]
    rw [e, scan_snoc, scan_snoc, hs, s1, s2, lead_set (by omega)]
    rfl
theorem lead_all {g : List Nat} (hg : g.length = 16) : lead g 16 = g := by
  apply List.ext_getElem?
  intro j
  unfold lead
  rw [List.getElem?_map]
  by_cases hj : j < 16
  · rw [List.getElem?_range hj, Option.map_some, if_pos hj, List.getD, List.getElem?_eq_getElem (by omega)]; rfl
  · rw [List.getElem?_eq_none (by simp; omega), List.getElem?_eq_none (by omega)]; rfl
theorem fold_la : ∀ (l : List UInt8) (q : Nat × List Nat), (l.map la).foldl stp q = l.foldl stp q
  | [], _ => rfl
  | b :: l, q => by
    have e : stp q (la b) = stp q b := by unfold stp; rw [hv_la]
    rw [List.map_cons, List.foldl_cons, List.foldl_cons, e, fold_la]
theorem Acc.scan {l : List UInt8} {g : List Nat} (a : Acc l g) (hg : isG g) : (scan l).2 = g := by
  have e : Guid.scan l = Guid.scan (prL g) := by unfold Guid.scan; rw [← a, fold_la]
  rw [e]
  unfold prL
  rw [scan_snoc, scan_pr hg.2 16 (Nat.le_refl _), stp_no (by decide), lead_all hg.1]

/-! ### Bytes beyond ASCII -/
end Go.Den.Guid
end

section
set_option linter.unusedVariables false
set_option maxRecDepth 100000
namespace Go.Den.Guid
open Go Go.Den
variable {h : Hp} {K : Value → Hp → Prop}

section
variable {a b : List Nat} {b0 b1 : Nat} {h1 : Hp}
structure In (h : Hp) (a b : List Nat) (b0 b1 : Nat) (h1 : Hp) : Prop where
  A : h1 b0 = some (.cells (gcs a) T.api_Guid (0, 0))
  B : h1 b1 = some (.cells (gcs b) T.api_Guid (0, 0))
  ha : isG a
  hb : isG b
  st : Step [] h [] h1
theorem In.step {h2 : Hp} (I : In h a b b0 b1 h1) (s : Step [] h1 [] h2) : In h a b b0 b1 h2 := ⟨s.keepB0 I.A, s.keepB0 I.B, I.ha, I.hb, I.st.trans s⟩
theorem In.cA (I : In h a b b0 b1 h1) : CellsAt h1 ⟨b0, 0, none⟩ 16 (gcs a) := cellsAt_blk I.A (by rw [gcs_size]; exact I.ha.1)
theorem In.cB (I : In h a b b0 b1 h1) : CellsAt h1 ⟨b1, 0, none⟩ 16 (gcs b) := cellsAt_blk I.B (by rw [gcs_size]; exact I.hb.1)
theorem In.iA (I : In h a b b0 b1 h1) : IntCells P T.api_Guid (gcs a) := intCells_guid I.ha.1
theorem In.iB (I : In h a b b0 b1 h1) : IntCells P T.api_Guid (gcs b) := intCells_guid I.hb.1
theorem In.fin (I : In h a b b0 b1 h1) : ((ByteArray.toList (prS a) == ByteArray.toList (prS b)) == aggEq (gcs a) (gcs b)) = true := by rw [prS_beq I.ha I.hb, aggEq_gcs]; simp
theorem In.aw (I : In h a b b0 b1 h1) : HC P law01_awake.n #[] h1 (fun v5 h4 => (∃ b3 : Bool, (v5 = (.bool b3)) ∧ Holds h (.bool b3) h4)) := awake_spec fun h' s' => ⟨_, rfl, rfl, I.st.trans s'⟩
theorem In.pB {C : Value → Hp → Prop} (I : In h a b b0 b1 h1) (hk : ∀ h2, In h a b b0 b1 h2 → C (.string (prS b)) h2) : HC P guid_Print.n #[.agg (gcs b)] h1 C := gPrint_spec I.hb fun h' s' => hk h' (I.step s')
theorem In.q0 (I : In h a b b0 b1 h1) : law01_GuidBack.k0 h1 b0 (gcs a) b1 (prS a) (prS b) (Holds h) := by unfold law01_GuidBack.k0; exact ⟨I.cA, _, I.cB, I.iA, I.iB, bcT I.fin I.aw⟩
theorem In.q1 (I : In h a b b0 b1 h1) : law01_GuidBack.k1 h1 b1 (gcs b) (gcs a) (prS a) (prS b) (Holds h) := by unfold law01_GuidBack.k1; exact ⟨I.cB, I.iA, I.iB, bcT I.fin I.aw⟩
theorem In.q2 (I : In h a b b0 b1 h1) : law01_GuidBack.k2 (prS a) (prS b) (gcs a) (gcs b) h1 (Holds h) := by unfold law01_GuidBack.k2; exact bcT I.fin I.aw
theorem In.q3 (I : In h a b b0 b1 h1) : law01_GuidBack.k3 h1 b0 (gcs a) (gcs b) (prS a) (prS b) (Holds h) := by unfold law01_GuidBack.k3; exact ⟨I.cA, I.iA, I.iB, bcT I.fin I.aw⟩
theorem In.q4 (I : In h a b b0 b1 h1) : law01_GuidBack.k4 h1 b1 (gcs b) b0 (prS a) (Holds h) := by
  unfold law01_GuidBack.k4
  exact ⟨I.cB, I.pB fun _ J => ⟨_, rfl, _, J.q0⟩, ⟨_, I.cA, I.pB fun _ J => ⟨_, rfl, _, J.q1⟩, _, I.cB, I.iA, I.iB, I.pB fun _ J => ⟨_, rfl, J.q2⟩⟩, _, I.cB, I.pB fun _ J => ⟨_, rfl, _, J.q3⟩, _, I.cA, I.iA, I.iB, I.pB fun _ J => ⟨_, rfl, J.q2⟩⟩
theorem In.q5 (I : In h a b b0 b1 h1) : law01_GuidBack.k5 (gcs b) h1 b0 b1 (prS a) (Holds h) := by
  unfold law01_GuidBack.k5
  exact ⟨I.pB fun _ J => ⟨_, rfl, _, J.q0⟩, ⟨_, I.cA, I.pB fun _ J => ⟨_, rfl, _, J.q1⟩, _, I.cB, I.iA, I.iB, I.pB fun _ J => ⟨_, rfl, J.q2⟩⟩, _, I.cB, I.pB fun _ J => ⟨_, rfl, _, J.q3⟩, _, I.cA, I.iA, I.iB, I.pB fun _ J => ⟨_, rfl, J.q2⟩⟩
end
end Go.Den.Guid
end

section
set_option linter.unusedVariables false
set_option maxRecDepth 100000
namespace Go.Den.Guid
open Go Go.Den Go.ChangeShapes Go.WideShapes Go.ChangeAt Go.RowKit
variable {h : Hp}
def guidK : List FK := List.replicate 16 (.int .u8)
end Go.Den.Guid
end

section
set_option linter.unusedVariables false
set_option maxRecDepth 100000
namespace Go.Den.Guid
open Go Go.Den Go.ChangeShapes Go.WideShapes Go.ChangeAt Go.RowKit
variable {h : Hp}
/-- Guids that are handed in. -/
def GdGiven (h : Hp) (v : Value) (len : Nat) : Prop := ∃ l : List Gd, l.length = len ∧ (∀ o ∈ l, o.Ok) ∧ SrcAt h 16 v len (ocs l)
theorem gds_in {H : Type} {enc : TypeId × Value → H} {W : World} {spare : Nat → Bool} {held : Bool} {sa : Option Addr} {len cap : Nat} {d : DataW H} {p : List MemPlace}
    (h : DataW.Trod enc P W 0 spare held T.sl_api_Guid (.slice sa len cap) d p) : GdGiven (hp W) (.slice sa len cap) len := by
  obtain ⟨rows, h1, h2, h3, h4⟩ := flats_in (P := P) (ks := guidK) (e := T.api_Guid) (by kernel_rfl) (by kernel_rfl) (by kernel_rfl) (by decide) h
  obtain ⟨L, g1, g2, g3⟩ := rows_of (f := oc) (Q := Gd.Ok) (rows := rows) fun r hr => by
    obtain ⟨g, e, k1, k2⟩ := bytes_of (n := 16) (h4 r hr)
    exact ⟨⟨g⟩, e, k1, k2⟩
  exact ⟨L, by omega, g3, by rw [g2] at h3; exact h3⟩
theorem GuidSorts_said {sa : Option Addr} {len cap : Nat} (g : GdGiven h (.slice sa len cap) len) : HC P law01_GuidSorts.n #[.slice sa len cap] h (Holds h) := by
  obtain ⟨l, g1, g2, g3⟩ := g
  exact GuidSorts_holds g3 g2 g1
end Go.Den.Guid
end

