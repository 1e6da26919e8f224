import Derived.Test.YtigpmmikmepcbaaGreatDoorB28
import Derived.KernelRfl
/- Texts that the claim needs, joined. -/
section
set_option linter.unusedVariables false
set_option maxRecDepth 100000
namespace Go.Den.Rot
open Go Go.Den Go.Den.Mon
variable {h h' : Hp} {c c' : Col} {K : Value → Hp → Prop} {S A most : Nat} {sp : List Sp} {fr : List Nat}
theorem named_hit {t : List UInt8} {j i : Nat} {s : Sp} (hj : (live 0 sp)[j]? = some (i, s)) (no : ∀ j' i s, j' < j → (live 0 sp)[j']? = some (i, s) → s.x.txt ≠ t) (e : s.x.txt = t) : named sp t = some (i, s) := by
  have hl := (List.getElem?_eq_some_iff.1 hj).1
  have sp1 : live 0 sp = (live 0 sp).take j ++ (i, s) :: (live 0 sp).drop (j + 1) := by
    have := List.drop_eq_getElem_cons hl
    rw [(List.getElem?_eq_some_iff.1 hj).2] at this
    rw [← this, List.take_append_drop]
  unfold named
  rw [sp1, List.find?_append]
  have : ((live 0 sp).take j).find? (fun p => decide (p.2.x.txt = t)) = none := by
    rw [List.find?_eq_none]
    intro p hp
    obtain ⟨m, hm⟩ := List.mem_iff_getElem?.1 hp
    rw [List.getElem?_take] at hm
    split at hm
    · rename_i lt
      have := no m p.1 p.2 lt hm
      simpa using this
    · cases hm
  rw [this, List.find?_cons]
  simp [e]
theorem named_miss {t : List UInt8} (no : ∀ j' i s, j' < (live 0 sp).length → (live 0 sp)[j']? = some (i, s) → s.x.txt ≠ t) : named sp t = none := by
  unfold named
  rw [List.find?_eq_none]
  intro p hp
  obtain ⟨m, hm⟩ := List.mem_iff_getElem?.1 hp
  have := no m p.1 p.2 (List.getElem?_eq_some_iff.1 hm).1 hm
  simpa using this
theorem beq_txt {a b : List UInt8} : (ByteArray.toList (str a) == ByteArray.toList (str b)) = decide (a = b) := by rw [toList_str, toList_str, beq_dec]
theorem tfind_spec {t0 : List UInt8} (t : PSt h c S most sp fr) (w : WF h c)
    (h0 : named sp t0 = none → ∀ h', Step [] h [] h' → K (.tuple #[.int .u64 0, .agg (evs zE).toArray, .bool false]) h')
    (h1 : ∀ i s, named sp t0 = some (i, s) → ∀ h', Step [] h [] h' → K (.tuple #[.int .u64 (hd i s.g : Nat), .agg (evs s.x).toArray, .bool true]) h') :
    HC P rot_Table_find.n #[.pointer (some ⟨S, 0, none⟩), .string (str t0)] h K := by
  obtain ⟨A, t⟩ := t
  refine rot_Table_find.hc ?_
  unfold rot_Table_find
  intro b0 hb0 b1 hb1 b2 hb2
  rw [zE_obj]
  intro b3 hb3
  obtain ⟨n32, hb3⟩ := put_none hb3
  obtain ⟨n31, hb3⟩ := put_none hb3
  obtain ⟨n30, hb3⟩ := put_none hb3
  obtain ⟨n21, hb2⟩ := put_none hb2
  obtain ⟨n20, hb2⟩ := put_none hb2
  obtain ⟨n10, hb1⟩ := put_none hb1
  obtain ⟨H0, hH0⟩ : ∃ H0, H0 = (((h.put b0 (.cells #[.string (str t0)] T.string (0, 0))).put b1 (.cells #[.int .u64 0] T.uint64 (0, 0))).put b2 (oE zE)).put b3 (.cells #[.bool Bool.false] T.bool (0, 0)) := ⟨_, rfl⟩
  rw [← hH0]
  have e0 : H0 b0 = some (.cells #[.string (str t0)] T.string (0, 0)) := by rw [hH0, put_ne (Ne.symm n30), put_ne (Ne.symm n20), put_ne (Ne.symm n10), put_self]
  have e1 : H0 b1 = some (.cells #[.int .u64 0] T.uint64 (0, 0)) := by rw [hH0, put_ne (Ne.symm n31), put_ne (Ne.symm n21), put_self]
  have e2 : H0 b2 = some (oE zE) := by rw [hH0, put_ne (Ne.symm n32), put_self]
  have e3 : H0 b3 = some (.cells #[.bool Bool.false] T.bool (0, 0)) := by rw [hH0, put_self]
  have st0 : Step [] h [] H0 := by rw [hH0]; exact (((Step.put (.inr hb0)).trans (Step.put (.inr (by rw [put_ne n10]; exact hb1)))).trans (Step.put (.inr (by rw [put_ne n21, put_ne n20]; exact hb2)))).trans (Step.put (.inr (by rw [put_ne n32, put_ne n31, put_ne n30]; exact hb3)))
  have t1 := t.read w st0
  simp only [someD_some, Addr.add_mk, Nat.zero_add]
  refine ⟨_, by rw [cell_of t1.blk]; rfl, arena_Arena_rot_entry_All.hc fun fb hfb => ⟨_, _, _, rfl, ?_⟩⟩
  unfold rot_Table_find.k3
  refine trueD_intro call_AAll_1 fun lb R hl hbody => ?_
  obtain ⟨nlf, hl⟩ := put_none hl
  obtain ⟨H1, hH1⟩ : ∃ H1, H1 = (H0.put fb (.cells #[.pointer (some ⟨A, 0, none⟩)] T.ptr_arena_Arena_rot_entry (0, 0))).put lb R.ready := ⟨_, rfl⟩
  have nfr : ∀ {k o}, H0 k = some o → k ≠ fb ∧ k ≠ lb := fun {k o} e => ⟨fun e' => (by rw [e', hfb] at e; cases e), fun e' => (by rw [e', hl] at e; cases e)⟩
  have st1 : Step [] h [] H1 := by rw [hH1]; exact (st0.trans (Step.put (.inr hfb))).trans (Step.put (.inr (by rw [put_ne nlf]; exact hl)))
  have lift : ∀ {k o}, H0 k = some o → H1 k = some o := fun {k o} e => by rw [hH1, put_ne (nfr e).2, put_ne (nfr e).1]; exact e
  have l1 : H1 lb = some R.ready := by rw [hH1, put_self]
  have f1 : H1 fb = some (.cells #[.pointer (some ⟨A, 0, none⟩)] T.ptr_arena_Arena_rot_entry (0, 0)) := by rw [hH1, put_ne (Ne.symm nlf), put_self]
  show HC P arena_Arena_rot_entry_All_1.n #[.func (.yield lb) #[] #[], .pointer (some ⟨fb, 0, none⟩)] _ _
  rw [← hH1]
  have t2 := t.read w st1
  have w2 := w.read st1
  have hlz : h lb = none := Classical.byContradiction fun hne => st0.dom lb hne hl
  have n1l : b1 ≠ lb := (nfr e1).2
  have n2l : b2 ≠ lb := (nfr e2).2
  have n3l : b3 ≠ lb := (nfr e3).2
  have n0l : b0 ≠ lb := (nfr e0).2
  refine AAll_scan (D := [lb, b1, b2, b3]) (I := fun j h' => h' lb = some R.ready ∧ Step [] h [lb, b1, b2, b3] h' ∧ h' b0 = some (.cells #[.string (str t0)] T.string (0, 0)) ∧ h' b1 = some (.cells #[.int .u64 0] T.uint64 (0, 0)) ∧
      h' b2 = some (oE zE) ∧ h' b3 = some (.cells #[.bool Bool.false] T.bool (0, 0)) ∧ (∀ j' i s, j' < j → (live 0 sp)[j']? = some (i, s) → s.x.txt ≠ t0) ∧ ∀ k, H1 k ≠ none → h' k ≠ none)
    t2.ar w2 ?_ (by rw [cell_of f1]; rfl) ?_ ?_ ?_ ?_ ?_
  · intro k hk
    simp at hk
    rcases hk with rfl | rfl | rfl | rfl
    · exact ⟨w.fresh hlz, by rw [l1]; simp⟩
    · exact ⟨w.fresh hb1, by rw [lift e1]; simp⟩
    · exact ⟨w.fresh hb2, by rw [lift e2]; simp⟩
    · exact ⟨w.fresh hb3, by rw [lift e3]; simp⟩
  · intro h' s
    refine ⟨s.keepB0 l1, (st1.trans s).weak (by simp) (fun k hk => ?_), s.keepB0 (lift e0), s.keepB0 (lift e1), s.keepB0 (lift e2), s.keepB0 (lift e3), by simp, s.dom⟩
    simp at hk
    rcases hk with rfl | rfl | rfl | rfl
    · exact .inr (.inr hlz)
    · exact .inr (.inr hb1)
    · exact .inr (.inr hb2)
    · exact .inr (.inr hb3)
  · rintro j h' ⟨-, -, -, -, -, -, -, i8⟩; exact i8
  · rintro j h' b o hb ⟨i1, i2, i3, i4, i5, i6, i7, i8⟩
    have ne : ∀ {k x}, h' k = some x → (h'.put b o) k = some x := fun {k x} e => by rw [put_ne (fun e' => by rw [e', hb] at e; cases e)]; exact e
    exact ⟨ne i1, i2.trans (Step.put (.inr hb)), ne i3, ne i4, ne i5, ne i6, i7, fun k hk => by unfold Hp.put; split <;> simp [i8 k hk]⟩
  · rintro j i s h' hj ⟨i1, i2, i3, i4, i5, i6, i7, i8⟩
    refine hbody _ _ _ _ i1 fun b4 hb4 => ?_
    rw [zE_obj]
    have e4 : (h'.put b4 (oE zE)).setCells ⟨b4, 0, none⟩ (evs s.x).toArray = h'.put b4 (oE s.x) := (setCells_blk (z := (evs zE).toArray) (cs := (evs s.x).toArray) put_self rfl).trans put_put
    have nb : ∀ {k o}, h' k = some o → k ≠ b4 := fun {k o} e e' => by rw [e', hb4] at e; cases e
    have ne : ∀ {k o}, h' k = some o → (h'.put b4 (oE s.x)) k = some o := fun {k o} e => by rw [put_ne (nb e)]; exact e
    refine ⟨rfl, fun v hv => evs_cellish s.x v hv, free4 put_self, by rw [e4]; exact ne i1, ?_⟩
    unfold rot_Table_find.k0 rot_Table_find.k1
    rw [zE_obj, e4]
    obtain ⟨Ha, hHa⟩ : ∃ Ha, Ha = (h'.put b4 (oE s.x)).put lb R.busy := ⟨_, rfl⟩
    rw [← hHa]
    have la : ∀ {k o}, k ≠ lb → h' k = some o → Ha k = some o := fun {k o} hne e => by rw [hHa, put_ne hne]; exact ne e
    have lla : Ha lb = some R.busy := by rw [hHa, put_self]
    have n4l : b4 ≠ lb := Ne.symm (nb i1)
    have a4 : Ha b4 = some (oE s.x) := by rw [hHa, put_ne n4l, put_self]
    have sa : Step [lb, b1, b2, b3] h' [lb, b1, b2, b3] Ha := by rw [hHa]; exact (Step.put (.inr hb4)).trans (Step.put (.inl (by simp)))
    refine ⟨_, by rw [Addr.add_mk, cell_of a4]; rfl, _, by rw [cell_of (la n0l i3)]; rfl, ?_⟩
    show bcase (ByteArray.toList (str s.x.txt) == ByteArray.toList (str t0)) _ _
    rw [beq_txt]
    refine bcase_intro (fun hc => ?_) fun hc => ?_
    · have hc := of_decide_eq_true hc
      have a1 := la n1l i4
      have a2 := la n2l i5
      have a3 := la n3l i6
      obtain ⟨Hb, hHb⟩ : ∃ Hb, Hb = Ha.setCell ⟨b1, 0, none⟩ (.int .u64 (hd i s.g : Nat)) := ⟨_, rfl⟩
      rw [← hHb]
      have m1 : Hb b1 = some (.cells #[.int .u64 (hd i s.g : Nat)] T.uint64 (0, 0)) := by rw [hHb, setCell_blk a1]; rfl
      have n14 : b4 ≠ b1 := Ne.symm (nb i4)
      have m2 : Hb b2 = some (oE zE) := by rw [hHb, setCell_ne n21]; exact a2
      have m3 : Hb b3 = some (.cells #[.bool Bool.false] T.bool (0, 0)) := by rw [hHb, setCell_ne n31]; exact a3
      have m4 : Hb b4 = some (oE s.x) := by rw [hHb, setCell_ne n14]; exact a4
      have ml : Hb lb = some R.busy := by rw [hHb, setCell_ne (Ne.symm n1l)]; exact lla
      have sb : Step [lb, b1, b2, b3] h' [lb, b1, b2, b3] Hb := by rw [hHb]; exact sa.trans (Step.setCell a1 (by simp))
      have e5 : Hb.setCells ⟨b2, 0, none⟩ #[.int .i64 s.x.owner, .string (str s.x.txt), .int .u64 (s.x.tgt : Int), .bool s.x.strong] = Hb.put b2 (oE s.x) := setCells_blk (z := (evs zE).toArray) (cs := (evs s.x).toArray) m2 rfl
      refine ⟨s.x.owner, str s.x.txt, (s.x.tgt : Int), s.x.strong, evs_get a4, ⟨_, by rw [cell_of a1]; rfl⟩, frozen_of a1, ⟨_, _, _, _, evs_get m4, rfl⟩, rfl, evs_cellish s.x, free4 m2, ?_⟩
      rw [e5]
      have p3 : (Hb.put b2 (oE s.x)) b3 = some (.cells #[.bool Bool.false] T.bool (0, 0)) := by rw [put_ne n32]; exact m3
      refine ⟨⟨_, by rw [cell_of p3]; rfl⟩, frozen_of p3, ?_⟩
      obtain ⟨Hc, hHc⟩ : ∃ Hc, Hc = (Hb.put b2 (oE s.x)).setCell ⟨b3, 0, none⟩ (.bool Bool.true) := ⟨_, rfl⟩
      rw [← hHc]
      have q3 : Hc b3 = some (.cells #[.bool Bool.true] T.bool (0, 0)) := by rw [hHc, setCell_blk p3]; rfl
      have q2 : Hc b2 = some (oE s.x) := by rw [hHc, setCell_ne (Ne.symm n32), put_self]
      have q1 : Hc b1 = some (.cells #[.int .u64 (hd i s.g : Nat)] T.uint64 (0, 0)) := by rw [hHc, setCell_ne (Ne.symm n31), put_ne (Ne.symm n21)]; exact m1
      have ql : Hc lb = some R.busy := by rw [hHc, setCell_ne (Ne.symm n3l), put_ne (Ne.symm n2l)]; exact ml
      have sc : Step [lb, b1, b2, b3] h' [lb, b1, b2, b3] Hc := by
        rw [hHc]
        exact (sb.trans (Step.put (.inl (by simp)))).trans (Step.setCell p3 (by simp))
      refine ⟨ql, sc.trans (Step.put (.inl (by simp))), .inr ⟨rfl, ?_⟩⟩
      unfold rot_Table_find.k2
      refine .inr (.inl ⟨put_self, _, by rw [put_put, cell_of (by rw [put_ne n1l]; exact q1)]; rfl, _, _, _, _, by rw [put_put]; exact evs_get (by rw [put_ne n2l]; exact q2), _, by rw [put_put, cell_of (by rw [put_ne n3l]; exact q3)]; rfl, ?_⟩)
      refine h1 i s (named_hit hj i7 hc) _ ?_
      rw [put_put]
      exact ((i2.trans sc).trans (Step.put (.inl (by simp)))).forget0
    · have hc := of_decide_eq_false hc
      refine ⟨lla, ?_⟩
      have sx : Step [lb, b1, b2, b3] h' [lb, b1, b2, b3] (Ha.put lb R.ready) := sa.trans (Step.put (.inl (by simp)))
      have nn : ∀ {k o}, k ≠ lb → h' k = some o → (Ha.put lb R.ready) k = some o := fun {k o} hne e => by rw [put_ne hne]; exact la hne e
      refine ⟨sx, .inl ⟨rfl, put_self, i2.trans sx, nn n0l i3, nn n1l i4, nn n2l i5, nn n3l i6, fun j' i' s' hj' hl' => ?_, fun k hk => sx.dom k (i8 k hk)⟩⟩
      by_cases e : j' = j
      · subst e; rw [hj] at hl'; cases hl'; exact hc
      · exact i7 j' i' s' (by omega) hl'
  · rintro h' ⟨i1, i2, i3, i4, i5, i6, i7, i8⟩
    unfold rot_Table_find.k2
    refine .inl ⟨i1, ?_⟩
    rw [show (#[.int .i64 0, .string (⟨#[]⟩ : ByteArray), .int .u64 0, .bool Bool.false] : Array Value) = (evs zE).toArray from rfl]
    obtain ⟨Ha, hHa⟩ : ∃ Ha, Ha = h'.put lb R.over := ⟨_, rfl⟩
    rw [← hHa]
    have a1 : Ha b1 = some (.cells #[.int .u64 0] T.uint64 (0, 0)) := by rw [hHa, put_ne n1l]; exact i4
    have a2 : Ha b2 = some (oE zE) := by rw [hHa, put_ne n2l]; exact i5
    have a3 : Ha b3 = some (.cells #[.bool Bool.false] T.bool (0, 0)) := by rw [hHa, put_ne n3l]; exact i6
    have sa : Step [] h [lb, b1, b2, b3] Ha := by rw [hHa]; exact i2.trans (Step.put (.inl (by simp)))
    refine ⟨⟨_, by rw [cell_of a1]; rfl⟩, frozen_of a1, rfl, evs_cellish zE, ?_⟩
    obtain ⟨Hb, hHb⟩ : ∃ Hb, Hb = Ha.setCell ⟨b1, 0, none⟩ (.int .u64 0) := ⟨_, rfl⟩
    rw [← hHb]
    have m1 : Hb b1 = some (.cells #[.int .u64 0] T.uint64 (0, 0)) := by rw [hHb, setCell_blk a1]; rfl
    have m2 : Hb b2 = some (oE zE) := by rw [hHb, setCell_ne n21]; exact a2
    have m3 : Hb b3 = some (.cells #[.bool Bool.false] T.bool (0, 0)) := by rw [hHb, setCell_ne n31]; exact a3
    have sb : Step [] h [lb, b1, b2, b3] Hb := by rw [hHb]; exact sa.trans (Step.setCell a1 (by simp))
    refine ⟨free4 m2, ?_⟩
    rw [setCells_blk (z := (evs zE).toArray) (cs := (evs zE).toArray) m2 rfl]
    have p3 : (Hb.put b2 (oE zE)) b3 = some (.cells #[.bool Bool.false] T.bool (0, 0)) := by rw [put_ne n32]; exact m3
    refine ⟨⟨_, by rw [cell_of p3]; rfl⟩, frozen_of p3, ?_⟩
    obtain ⟨Hc, hHc⟩ : ∃ Hc, Hc = (Hb.put b2 (oE zE)).setCell ⟨b3, 0, none⟩ (.bool Bool.false) := ⟨_, rfl⟩
    rw [← hHc]
    have q3 : Hc b3 = some (.cells #[.bool Bool.false] T.bool (0, 0)) := by rw [hHc, setCell_blk p3]; rfl
    have q2 : Hc b2 = some (oE zE) := by rw [hHc, setCell_ne (Ne.symm n32), put_self]
    have q1 : Hc b1 = some (.cells #[.int .u64 0] T.uint64 (0, 0)) := by rw [hHc, setCell_ne (Ne.symm n31), put_ne (Ne.symm n21)]; exact m1
    have sc : Step [] h [lb, b1, b2, b3] Hc := by
      rw [hHc]
      exact (sb.trans (Step.put (.inl (by simp)))).trans (Step.setCell p3 (by simp))
    exact ⟨_, by rw [cell_of q1]; rfl, _, _, _, _, evs_get q2, _, by rw [cell_of q3]; rfl, h0 (named_miss i7) _ sc.forget0⟩
end Go.Den.Rot
end

section
set_option linter.unusedVariables false
set_option maxRecDepth 100000
namespace Go.Den.Rot
open Go Go.Den Go.Den.Mon
variable {h h' : Hp} {c c' : Col} {K : Value → Hp → Prop} {S A most : Nat} {sp : List Sp} {fr : List Nat}
theorem newE {b : Nat} {x : Ent} : (h.put b (oE zE)).setCells ⟨b, 0, none⟩ (evs x).toArray = h.put b (oE x) := (setCells_blk (z := (evs zE).toArray) (cs := (evs x).toArray) put_self rfl).trans put_put
theorem tPut_nil {x : Raw} {ow : Int} {tgt : Nat} {strong : Bool} (hk : ∀ h', Step [] h [] h' → K (.tuple #[.int .u64 0, .int .i64 3]) h') : HC P rot_Table_Put.n #[.pointer none, .int .i64 ow, .agg (mc x).toArray, .int .u64 (tgt : Int), .bool strong] h K := by
  refine rot_Table_Put.hc ?_
  unfold rot_Table_Put
  exact fun b1 hb1 => bcT rfl (hk _ (Step.put (.inr hb1)))
theorem tPut_spec (en : Mon.Env h) {x : Raw} {rows : List Raw} {m : Mon} {ow : Int} {tgt : Nat} {strong : Bool} (t : PSt h c S most sp fr) (w : WF h c) (tp : Top h x rows m)
    (hx : rright x rows = false → ∀ h', Step [] h [] h' → K (.tuple #[.int .u64 0, .int .i64 5]) h')
    (ht : rright x rows = true → (∃ p, named sp (nm x rows) = some p) → ∀ h', Step [] h [] h' → K (.tuple #[.int .u64 0, .int .i64 13]) h')
    (hf : rright x rows = true → named sp (nm x rows) = none → fr = [] → sp.length = most → ∀ h', Step [] h [] h' → K (.tuple #[.int .u64 0, .int .i64 3]) h')
    (hk : rright x rows = true → named sp (nm x rows) = none → ∀ i g sp' fr' h' c', placed sp fr ⟨ow, nm x rows, tgt, strong⟩ i g sp' fr' → PSt h' c' S most sp' fr' → Chg pR h c h' c' → K (.tuple #[.int .u64 (hd i g : Nat), .int .i64 0]) h') :
    HC P rot_Table_Put.n #[.pointer (some ⟨S, 0, none⟩), .int .i64 ow, .agg (mc x).toArray, .int .u64 (tgt : Int), .bool strong] h K := by
  have kx := tp.deep.ok
  refine rot_Table_Put.hc ?_
  unfold rot_Table_Put
  intro b1 hb1
  refine bcF rfl ?_
  unfold rot_Table_Put.k6
  have S0 : Step [] h [] (h.put b1 (.cells (mc x).toArray T.api_Moniker (0, 0))) := Step.put (.inr hb1)
  have M0 : MB (h.put b1 (.cells (mc x).toArray T.api_Moniker (0, 0))) b1 x := put_self
  refine ⟨_, M0.all kx, name_spec (en.step S0) (tp.step S0) (fun r h1 s1 => ⟨_, _, rfl, ?_⟩) fun r h1 s1 => ⟨_, _, rfl, ?_⟩⟩
  · have st1 := S0.trans s1
    unfold rot_Table_Put.k5
    refine bcF rfl ?_
    unfold rot_Table_Put.k4
    refine tfind_spec (t.read w st1) (w.read st1) (fun e h2 s2 => ⟨_, _, _, rfl, ?_⟩) fun i s e h2 s2 => ⟨_, _, _, rfl, ?_⟩
    · have st2 := st1.trans s2
      unfold rot_Table_Put.k3
      intro b3 hb3
      rw [zE_obj]
      refine ⟨rfl, fun v hv => evs_cellish zE v hv, free4 put_self, bcF rfl ?_⟩
      unfold rot_Table_Put.k2
      rw [zE_obj, newE]
      have st3 : Step [] h [] (h2.put b3 (oE zE)) := st2.trans (Step.put (.inr hb3))
      have t3 := t.read w st3
      have w3 := w.read st3
      obtain ⟨A, ta⟩ := id t3
      simp only [someD_some, Addr.add_mk, Nat.zero_add]
      refine ⟨_, by rw [cell_of ta.blk]; rfl, Put_spec (x := ⟨ow, nm x rows, tgt, strong⟩) ta.ar w3 (fun e1 e2 h4 s4 => ⟨_, _, rfl, hf r e e1 e2 h4 (st3.trans s4)⟩) fun i g sp' fr' h4 c4 pl a4 q4 => ⟨_, _, rfl, ?_⟩⟩
      obtain ⟨eS, cS⟩ := q4.keep S (w3 S (by rw [ta.col]; simp)) (by rw [ta.col]; simp)
      exact hk r e i g sp' fr' h4 c4 pl ⟨A, eS.trans ta.blk, cS.trans ta.col, a4⟩ ((Chg.of_read st3 w).trans (q4.weak fun r e => .inl e))
    · unfold rot_Table_Put.k3
      intro b3 hb3
      rw [zE_obj]
      refine ⟨rfl, fun v hv => evs_cellish s.x v hv, free4 put_self, bcT rfl ?_⟩
      unfold rot_Table_Put.k1
      rw [zE_obj, newE]
      exact ht r ⟨_, e⟩ _ ((st1.trans s2).trans (Step.put (.inr hb3)))
  · unfold rot_Table_Put.k5
    exact bcT rfl (hx r h1 (S0.trans s1))
theorem tFind_nil {x : Raw} (hk : ∀ h', Step [] h [] h' → K (.tuple #[.int .u64 0, .bool false, .int .i64 12]) h') : HC P rot_Table_Find.n #[.pointer none, .agg (mc x).toArray] h K := by
  refine rot_Table_Find.hc ?_
  unfold rot_Table_Find
  exact fun b1 hb1 => bcT rfl (hk _ (Step.put (.inr hb1)))
theorem tFind_spec (en : Mon.Env h) {x : Raw} {rows : List Raw} {m : Mon} (t : PSt h c S most sp fr) (w : WF h c) (tp : Top h x rows m)
    (hx : rright x rows = false → ∀ h', Step [] h [] h' → K (.tuple #[.int .u64 0, .bool false, .int .i64 5]) h')
    (hn : rright x rows = true → named sp (nm x rows) = none → ∀ h', Step [] h [] h' → K (.tuple #[.int .u64 0, .bool false, .int .i64 12]) h')
    (hk : rright x rows = true → ∀ i s, named sp (nm x rows) = some (i, s) → ∀ h', Step [] h [] h' → K (.tuple #[.int .u64 (s.x.tgt : Int), .bool s.x.strong, .int .i64 0]) h') :
    HC P rot_Table_Find.n #[.pointer (some ⟨S, 0, none⟩), .agg (mc x).toArray] h K := by
  have kx := tp.deep.ok
  refine rot_Table_Find.hc ?_
  unfold rot_Table_Find
  intro b1 hb1
  refine bcF rfl ?_
  unfold rot_Table_Find.k6
  have S0 : Step [] h [] (h.put b1 (.cells (mc x).toArray T.api_Moniker (0, 0))) := Step.put (.inr hb1)
  have M0 : MB (h.put b1 (.cells (mc x).toArray T.api_Moniker (0, 0))) b1 x := put_self
  refine ⟨_, M0.all kx, name_spec (en.step S0) (tp.step S0) (fun r h1 s1 => ⟨_, _, rfl, ?_⟩) fun r h1 s1 => ⟨_, _, rfl, ?_⟩⟩
  · have st1 := S0.trans s1
    unfold rot_Table_Find.k5
    refine bcF rfl ?_
    unfold rot_Table_Find.k4
    refine tfind_spec (t.read w st1) (w.read st1) (fun e h2 s2 => ⟨_, _, _, rfl, ?_⟩) fun i s e h2 s2 => ⟨_, _, _, rfl, ?_⟩
    · unfold rot_Table_Find.k3
      intro b3 hb3
      rw [zE_obj]
      refine ⟨rfl, fun v hv => evs_cellish zE v hv, free4 put_self, bcT rfl ?_⟩
      unfold rot_Table_Find.k1
      rw [zE_obj, newE]
      exact hn r e _ ((st1.trans s2).trans (Step.put (.inr hb3)))
    · unfold rot_Table_Find.k3
      intro b3 hb3
      rw [zE_obj]
      refine ⟨rfl, fun v hv => evs_cellish s.x v hv, free4 put_self, bcF rfl ?_⟩
      unfold rot_Table_Find.k2
      rw [zE_obj, newE]
      have B : (h2.put b3 (oE s.x)) b3 = some (oE s.x) := put_self
      exact ⟨_, by rw [Addr.add_mk, cell_of B]; rfl, _, by rw [Addr.add_mk, cell_of B]; rfl, hk r i s e _ ((st1.trans s2).trans (Step.put (.inr hb3)))⟩
  · unfold rot_Table_Find.k5
    exact bcT rfl (hx r h1 (S0.trans s1))
theorem tDrop_nil {x : Nat} (hk : K (.tuple #[.int .u64 0, .bool false, .int .i64 2]) h) : HC P rot_Table_Drop.n #[.pointer none, .int .u64 (x : Int)] h K := by
  refine rot_Table_Drop.hc ?_
  unfold rot_Table_Drop
  exact bcT rfl hk
end Go.Den.Rot
end

section
set_option linter.unusedVariables false
set_option maxRecDepth 100000
namespace Go.Den.Mon
open Go Go.Den

noncomputable section

def law22_item (s0 : ByteArray) (K : Value → Hp → Prop) (h : Hp) : Prop :=
 (∀ b0 : Nat, ((h b0) = none → True ∧ (((#[.int .i64 1, .int .u8 0, .int .u8 0, .int .u8 0, .int .u8 0, .int .u8 0, .int .u8 0, .int .u8 0, .int .u8 0, .int .u8 0, .int .u8 0, .int .u8 0, .int .u8 0, .int .u8 0, .int .u8 0, .int .u8 0, .int .u8 0, .string s0, .int .u64 0, .slice none 0 0] : Array Value).size) = 20) ∧ (∀ v0 : Value, (v0 ∈ ([.int .i64 1, .int .u8 0, .int .u8 0, .int .u8 0, .int .u8 0, .int .u8 0, .int .u8 0, .int .u8 0, .int .u8 0, .int .u8 0, .int .u8 0, .int .u8 0, .int .u8 0, .int .u8 0, .int .u8 0, .int .u8 0, .int .u8 0, .string s0, .int .u64 0, .slice none 0 0] : List Value) → (Den.cellish v0) = Bool.true)) ∧ (Free (h.put b0 (.cells #[.int .i64 0, .int .u8 0, .int .u8 0, .int .u8 0, .int .u8 0, .int .u8 0, .int .u8 0, .int .u8 0, .int .u8 0, .int .u8 0, .int .u8 0, .int .u8 0, .int .u8 0, .int .u8 0, .int .u8 0, .int .u8 0, .int .u8 0, .string (⟨#[]⟩ : ByteArray), .int .u64 0, .slice none 0 0] T.api_Moniker (0, 0))) ⟨b0, 0, none⟩ 20) ∧ (∃ cs0 : Array Value, (CellsAt ((h.put b0 (.cells #[.int .i64 0, .int .u8 0, .int .u8 0, .int .u8 0, .int .u8 0, .int .u8 0, .int .u8 0, .int .u8 0, .int .u8 0, .int .u8 0, .int .u8 0, .int .u8 0, .int .u8 0, .int .u8 0, .int .u8 0, .int .u8 0, .int .u8 0, .string (⟨#[]⟩ : ByteArray), .int .u64 0, .slice none 0 0] T.api_Moniker (0, 0))).setCells ⟨b0, 0, none⟩ #[.int .i64 1, .int .u8 0, .int .u8 0, .int .u8 0, .int .u8 0, .int .u8 0, .int .u8 0, .int .u8 0, .int .u8 0, .int .u8 0, .int .u8 0, .int .u8 0, .int .u8 0, .int .u8 0, .int .u8 0, .int .u8 0, .int .u8 0, .string s0, .int .u64 0, .slice none 0 0]) ⟨b0, 0, none⟩ 20 cs0) ∧ K (.agg cs0) ((h.put b0 (.cells #[.int .i64 0, .int .u8 0, .int .u8 0, .int .u8 0, .int .u8 0, .int .u8 0, .int .u8 0, .int .u8 0, .int .u8 0, .int .u8 0, .int .u8 0, .int .u8 0, .int .u8 0, .int .u8 0, .int .u8 0, .int .u8 0, .int .u8 0, .string (⟨#[]⟩ : ByteArray), .int .u64 0, .slice none 0 0] T.api_Moniker (0, 0))).setCells ⟨b0, 0, none⟩ #[.int .i64 1, .int .u8 0, .int .u8 0, .int .u8 0, .int .u8 0, .int .u8 0, .int .u8 0, .int .u8 0, .int .u8 0, .int .u8 0, .int .u8 0, .int .u8 0, .int .u8 0, .int .u8 0, .int .u8 0, .int .u8 0, .int .u8 0, .string s0, .int .u64 0, .slice none 0 0]))))
theorem law22_item.hc {s0 : ByteArray} {K : Value → Hp → Prop} {h : Hp} (hh : law22_item s0 K h) : HC P law22_item.n #[.string s0] h K :=
  HC_of_den (fn := Go.Proofs.Tryz.f30) (args := [.string s0]) Go.Proofs.Tryz.func30 rfl (Nat.le_of_ble_eq_true (by kernel_rfl)) (den_cast hh (by kernel_rfl))

def law22_awake.k0 (n3 : Int) (b1 : Bool) (K : Value → Hp → Prop) (n6 : Int) (h7 : Hp) : Prop :=
 bcase ((n3 == 5))
 (bcase (b1)
 (K (.bool (n6 == 13)) h7)
 (K (.bool Bool.false) h7))
 (K (.bool Bool.false) h7)
def law22_awake.k1 (n4 : Int) (n3 : Int) (b1 : Bool) (K : Value → Hp → Prop) (n6 : Int) (h7 : Hp) : Prop :=
 bcase ((n4 == 0))
 ((law22_awake.k0 n3 b1 K n6 h7))
 (K (.bool Bool.false) h7)
def law22_awake.k2 (n2 : Int) (n4 : Int) (n3 : Int) (b1 : Bool) (K : Value → Hp → Prop) (n6 : Int) (h7 : Hp) : Prop :=
 bcase ((n2 == 0))
 ((law22_awake.k1 n4 n3 b1 K n6 h7))
 (K (.bool Bool.false) h7)
def law22_awake.k3 (n0 : Int) (n2 : Int) (n4 : Int) (n3 : Int) (b1 : Bool) (K : Value → Hp → Prop) (n6 : Int) (h7 : Hp) : Prop :=
 bcase ((n0 == 0))
 ((law22_awake.k2 n2 n4 n3 b1 K n6 h7))
 (K (.bool Bool.false) h7)
def law22_awake.k4 (a0 : Option Addr) (cs3 : Array Value) (h6 : Hp) (n0 : Int) (n2 : Int) (n4 : Int) (n3 : Int) (b1 : Bool) (K : Value → Hp → Prop) : Prop :=
 HC P rot_Table_Put.n #[.pointer a0, .int .i64 2, .agg cs3, .int .u64 6, .bool Bool.false] h6 (fun v10 h7 => (∃ n5 : Int, (∃ n6 : Int, (v10 = (.tuple #[.int .u64 n5, .int .i64 n6])) ∧ (law22_awake.k3 n0 n2 n4 n3 b1 K n6 h7))))
def law22_awake.k5 (h5 : Hp) (a0 : Option Addr) (n0 : Int) (n2 : Int) (n4 : Int) (n3 : Int) (b1 : Bool) (K : Value → Hp → Prop) : Prop :=
 HC P law22_item.n #[.string (⟨#[97]⟩ : ByteArray)] h5 (fun v9 h6 => (∃ cs3 : Array Value, (v9 = (.agg cs3)) ∧ (law22_awake.k4 a0 cs3 h6 n0 n2 n4 n3 b1 K)))
def law22_awake.k6 (cs1 : Array Value) (cs2 : Array Value) (h4 : Hp) (a0 : Option Addr) (n0 : Int) (n2 : Int) (K : Value → Hp → Prop) : Prop :=
 True ∧ ((cs1.size = 20) ∧ (∀ v5 : Value, (v5 ∈ (Array.toList cs1 : List Value) → (Den.cellish v5) = Bool.true)) ∧ (cs2.size = 20) ∧ (∀ v6 : Value, (v6 ∈ (Array.toList cs2 : List Value) → (Den.cellish v6) = Bool.true)) ∧ ((20 : Nat) = 20) ∧ (∀ v7 : Value, (v7 ∈ ([.int .i64 4, .int .u8 0, .int .u8 0, .int .u8 0, .int .u8 0, .int .u8 0, .int .u8 0, .int .u8 0, .int .u8 0, .int .u8 0, .int .u8 0, .int .u8 0, .int .u8 0, .int .u8 0, .int .u8 0, .int .u8 0, .int .u8 0, .string (⟨#[]⟩ : ByteArray), .int .u64 0, .slice none 0 0] : List Value) → (Den.cellish v7) = Bool.true)) ∧ True) ∧ (∀ b0 : Nat, ((h4 b0) = none → True ∧ HC P rot_Table_Find.n #[.pointer a0, .agg #[.int .i64 5, .int .u8 0, .int .u8 0, .int .u8 0, .int .u8 0, .int .u8 0, .int .u8 0, .int .u8 0, .int .u8 0, .int .u8 0, .int .u8 0, .int .u8 0, .int .u8 0, .int .u8 0, .int .u8 0, .int .u8 0, .int .u8 0, .string (⟨#[]⟩ : ByteArray), .int .u64 0, .slice (some ⟨b0, 0, none⟩) 3 3]] (h4.put b0 (.cells (Array.mk (catA cs1 (catA cs2 (catA #[.int .i64 4, .int .u8 0, .int .u8 0, .int .u8 0, .int .u8 0, .int .u8 0, .int .u8 0, .int .u8 0, .int .u8 0, .int .u8 0, .int .u8 0, .int .u8 0, .int .u8 0, .int .u8 0, .int .u8 0, .int .u8 0, .int .u8 0, .string (⟨#[]⟩ : ByteArray), .int .u64 0, .slice none 0 0] [])))) T.api_Moniker (0, 0))) (fun v8 h5 => (∃ n3 : Int, (∃ b1 : Bool, (∃ n4 : Int, (v8 = (.tuple #[.int .u64 n3, .bool b1, .int .i64 n4])) ∧ (law22_awake.k5 h5 a0 n0 n2 n4 n3 b1 K)))))))
def law22_awake.k7 (h3 : Hp) (cs1 : Array Value) (a0 : Option Addr) (n0 : Int) (n2 : Int) (K : Value → Hp → Prop) : Prop :=
 HC P law22_item.n #[.string (⟨#[98]⟩ : ByteArray)] h3 (fun v4 h4 => (∃ cs2 : Array Value, (v4 = (.agg cs2)) ∧ (law22_awake.k6 cs1 cs2 h4 a0 n0 n2 K)))
def law22_awake.k8 (h2 : Hp) (a0 : Option Addr) (n0 : Int) (n2 : Int) (K : Value → Hp → Prop) : Prop :=
 HC P law22_item.n #[.string (⟨#[97]⟩ : ByteArray)] h2 (fun v3 h3 => (∃ cs1 : Array Value, (v3 = (.agg cs1)) ∧ (law22_awake.k7 h3 cs1 a0 n0 n2 K)))
def law22_awake.k9 (a0 : Option Addr) (cs0 : Array Value) (h1 : Hp) (n0 : Int) (K : Value → Hp → Prop) : Prop :=
 HC P rot_Table_Put.n #[.pointer a0, .int .i64 1, .agg cs0, .int .u64 5, .bool Bool.true] h1 (fun v2 h2 => (∃ n1 : Int, (∃ n2 : Int, (v2 = (.tuple #[.int .u64 n1, .int .i64 n2])) ∧ (law22_awake.k8 h2 a0 n0 n2 K))))
def law22_awake.k10 (h0 : Hp) (a0 : Option Addr) (n0 : Int) (K : Value → Hp → Prop) : Prop :=
 HC P law22_item.n #[.string (⟨#[97]⟩ : ByteArray)] h0 (fun v1 h1 => (∃ cs0 : Array Value, (v1 = (.agg cs0)) ∧ (law22_awake.k9 a0 cs0 h1 n0 K)))
def law22_awake  (K : Value → Hp → Prop) (h : Hp) : Prop :=
 HC P rot_New.n #[.int .i64 4] h (fun v0 h0 => (∃ a0 : Option Addr, (∃ n0 : Int, (v0 = (.tuple #[.pointer a0, .int .i64 n0])) ∧ (law22_awake.k10 h0 a0 n0 K))))
theorem law22_awake.hc  {K : Value → Hp → Prop} {h : Hp} (hh : law22_awake  K h) : HC P law22_awake.n #[] h K :=
  HC_of_den (fn := Go.Proofs.Tryz.f14) (args := []) Go.Proofs.Tryz.func14 rfl (Nat.le_of_ble_eq_true (by kernel_rfl)) (den_cast hh (by kernel_rfl))

end
end Go.Den.Mon
end

section
set_option linter.unusedVariables false
set_option maxRecDepth 100000
namespace Go.Den.Rot
open Go Go.Den Go.Den.Mon
variable {h h' : Hp} {c c' : Col} {K : Value → Hp → Prop} {S A most : Nat} {sp : List Sp} {fr : List Nat}
theorem item_spec {l : List UInt8} (hl : l.length ≤ 256) (hk : ∀ h', Step [] h [] h' → K (.agg (mc (itm l)).toArray) h') : HC P law22_item.n #[.string (str l)] h K := by
  refine law22_item.hc ?_
  unfold law22_item
  intro b0 hb0
  have k := (itm_ok hl).1
  have e : (h.put b0 (.cells zMon T.api_Moniker (0, 0))).setCells ⟨b0, 0, none⟩ (mc (itm l)).toArray = h.put b0 (.cells (mc (itm l)).toArray T.api_Moniker (0, 0)) := newM k hb0
  refine ⟨trivial, rfl, by simp [cellish], freeM, ?_⟩
  change ∃ cs0 : Array Value, CellsAt ((h.put b0 (.cells zMon T.api_Moniker (0, 0))).setCells ⟨b0, 0, none⟩ (mc (itm l)).toArray) ⟨b0, 0, none⟩ 20 cs0 ∧ K (.agg cs0) ((h.put b0 (.cells zMon T.api_Moniker (0, 0))).setCells ⟨b0, 0, none⟩ (mc (itm l)).toArray)
  rw [e]
  have M : MB (h.put b0 (.cells (mc (itm l)).toArray T.api_Moniker (0, 0))) b0 (itm l) := put_self
  exact ⟨_, M.all k, hk _ (Step.put (.inr hb0))⟩
theorem itm_top {l : List UInt8} (hl : l.length ≤ 256) : Top h (itm l) [] (leaf (itm l)) ∧ rright (itm l) [] = true ∧ partsOf (itm l) [] = [itm l] :=
  ⟨leaf_top (itm_ok hl).1 (itm_ok hl).2.1, (rr_part (itm_ok hl).2.1).1, (rr_part (itm_ok hl).2.1).2⟩
theorem src_three {h : Hp} {b n : Nat} {x y z : Raw} (k : x.Ok) (k' : y.Ok) (k'' : z.Ok) : SrcAt (h.put b (.cells (Array.mk (catA (mc x).toArray (catA (mc y).toArray (catA (mc z).toArray [])))) T.api_Moniker (0, 0))) 20 (.slice (some ⟨b, 0, none⟩) 3 n) 3 (mcs [x, y, z]) := by
  have e : catA (mc x).toArray (catA (mc y).toArray (catA (mc z).toArray [])) = mcs [x, y, z] := by simp [catA, mcs]
  rw [e]
  refine .some (cellsAt_blk put_self ?_)
  have := mc_len k
  have := mc_len k'
  have := mc_len k''
  simp [mcs]; omega
theorem red_abc : red [] [itm [97], itm [98], anti] = [itm [97]] := by kernel_rfl
theorem awake_spec (en : Mon.Env h) (hk : ∀ h', Step [] h [] h' → K (.bool true) h') : HC P law22_awake.n #[] h K := by
  have la : ([97] : List UInt8).length ≤ 256 := by decide
  have lb : ([98] : List UInt8).length ≤ 256 := by decide
  refine law22_awake.hc ?_
  unfold law22_awake
  refine rNew_ok (c := fun _ => z0) WF.zero (by omega) fun S h0 c0 t0 q0 => ⟨_, _, rfl, ?_⟩
  unfold law22_awake.k10
  refine item_spec (l := [97]) la fun h1 s1 => ⟨_, rfl, ?_⟩
  have ste : ∀ {hh cc}, Chg pR h (fun _ => z0) hh cc → Step [] h [] hh := fun q => (q.weak fun r e => by rintro rfl; exact pR_z e).step0
  have q1 : Chg pR h (fun _ => z0) h1 c0 := q0.trans (Chg.of_read s1 q0.wf)
  have t1 := t0.read q0.wf s1
  unfold law22_awake.k9
  obtain ⟨T1, r1, p1⟩ := itm_top (h := h1) la
  have n1 : nm (itm [97]) [] = txtOf [itm [97]] := by unfold nm; rw [p1]; rfl
  have e0 : named [] (nm (itm [97]) []) = none := rfl
  refine tPut_spec (tgt := 5) (en.step (ste q1)) t1 q1.wf T1 (fun r => by rw [r1] at r; cases r) (fun _ ⟨p, e⟩ => by rw [e0] at e; cases e) (fun _ _ _ e => by cases e) fun _ _ i g sp' fr' h2 c2 pl t2 q2' => ⟨_, _, rfl, ?_⟩
  have q2 := q1.trans q2'
  have hpl : i = 0 ∧ g = 1 ∧ sp' = [⟨⟨1, nm (itm [97]) [], 5, true⟩, 1, true⟩] ∧ fr' = [] := by
    rcases pl with ⟨h1, h2, h3, h4, h5⟩ | ⟨s, h1, h2, h3, h4⟩
    · exact ⟨by simpa using h2, h3, by simpa using h4, h5⟩
    · cases h2
  obtain ⟨rfl, rfl, rfl, rfl⟩ := hpl
  unfold law22_awake.k8
  refine item_spec (l := [97]) la fun h3 s3 => ⟨_, rfl, ?_⟩
  unfold law22_awake.k7
  refine item_spec (l := [98]) lb fun h4 s4 => ⟨_, rfl, ?_⟩
  have q4 : Chg pR h (fun _ => z0) h4 c2 := q2.trans (Chg.of_read (s3.trans s4) q2.wf)
  have t4 := t2.read q2.wf (s3.trans s4)
  unfold law22_awake.k6
  have ka := (itm_ok la).1
  have kb := (itm_ok lb).1
  refine ⟨trivial, ⟨by simpa using mc_len ka, mc_cellish, by simpa using mc_len kb, mc_cellish, rfl, by simp [cellish], trivial⟩, fun b0 hb0 => ⟨trivial, ?_⟩⟩
  have S5 : Step [] h4 [] (h4.put b0 (.cells (Array.mk (catA (mc (itm [97])).toArray (catA (mc (itm [98])).toArray (catA (mc anti).toArray [])))) T.api_Moniker (0, 0))) := Step.put (.inr hb0)
  have R5 : SrcAt (h4.put b0 (.cells (Array.mk (catA (mc (itm [97])).toArray (catA (mc (itm [98])).toArray (catA (mc anti).toArray [])))) T.api_Moniker (0, 0))) 20 (.slice (some ⟨b0, 0, none⟩) 3 3) 3 (mcs [itm [97], itm [98], anti]) := src_three ka kb anti_ok
  have G5 := got_of (a := some ⟨b0, 0, none⟩) (c := 3) (l := [itm [97], itm [98], anti]) R5 (fun r hr => by
    simp at hr; rcases hr with rfl | rfl | rfl
    · exact ka
    · exact kb
    · exact anti_ok) (fun r hr => by
    simp at hr; rcases hr with rfl | rfl | rfl
    · exact (itm_ok la).2.1
    · exact (itm_ok lb).2.1
    · exact anti_rp) (by simp)
  change HC P rot_Table_Find.n #[.pointer (some ⟨S, 0, none⟩), .agg (mc (li (some ⟨b0, 0, none⟩) 3 3)).toArray] (h4.put b0 (.cells (Array.mk (catA (mc (itm [97])).toArray (catA (mc (itm [98])).toArray (catA (mc anti).toArray [])))) T.api_Moniker (0, 0))) _
  have q5 : Chg pR h (fun _ => z0) (h4.put b0 (.cells (Array.mk (catA (mc (itm [97])).toArray (catA (mc (itm [98])).toArray (catA (mc anti).toArray [])))) T.api_Moniker (0, 0))) c2 := q4.trans (Chg.of_read S5 q4.wf)
  have t5 := t4.read q4.wf S5
  generalize h4.put b0 (.cells (Array.mk (catA (mc (itm [97])).toArray (catA (mc (itm [98])).toArray (catA (mc anti).toArray [])))) T.api_Moniker (0, 0)) = H at G5 q5 t5 ⊢
  obtain ⟨rows, T5, ep, er⟩ := G5
  change Top H (li (some ⟨b0, 0, none⟩) 3 3) rows _ at T5
  change partsOf (li (some ⟨b0, 0, none⟩) 3 3) rows = _ at ep
  change rright (li (some ⟨b0, 0, none⟩) 3 3) rows = true at er
  have n5 : nm (li (some ⟨b0, 0, none⟩) 3 3) rows = nm (itm [97]) [] := by
    rw [n1]; unfold nm; rw [ep, red_abc]
  have hit : named [⟨⟨1, nm (itm [97]) [], 5, true⟩, 1, true⟩] (nm (itm [97]) []) = some (0, ⟨⟨1, nm (itm [97]) [], 5, true⟩, 1, true⟩) := by
    simp [named, live]
  refine tFind_spec (en.step (ste q5)) t5 q5.wf T5 (fun r => by rw [er] at r; cases r) (fun _ e => by rw [n5, hit] at e; cases e) fun _ i s e h6 s6 => ⟨_, _, _, rfl, ?_⟩
  rw [n5, hit] at e
  cases e
  unfold law22_awake.k5
  refine item_spec (l := [97]) la fun h7 s7 => ⟨_, rfl, ?_⟩
  have q7 : Chg pR h (fun _ => z0) h7 c2 := q5.trans (Chg.of_read (s6.trans s7) q5.wf)
  have t7 := t5.read q5.wf (s6.trans s7)
  unfold law22_awake.k4
  obtain ⟨T7, r7, p7⟩ := itm_top (h := h7) la
  refine tPut_spec (tgt := 6) (en.step (ste q7)) t7 q7.wf T7 (fun r => by rw [r7] at r; cases r) (fun _ _ h8 s8 => ⟨_, _, rfl, ?_⟩) (fun _ e => by rw [hit] at e; cases e) fun _ e => by rw [hit] at e; cases e
  have fin : K (.bool true) h8 := hk h8 ((ste q7).trans s8)
  exact fin
end Go.Den.Rot
end

section
set_option linter.unusedVariables false
set_option maxRecDepth 100000
namespace Go.Den.Rot
open Go Go.Den Go.Den.Mon
variable {h h' : Hp} {c c' : Col} {K : Value → Hp → Prop} {S A most : Nat} {sp sp' : List Sp} {fr fr' : List Nat} {i j g : Nat} {s : Sp} {x : Ent}
/-! ### One entry for each name -/
def Uq (sp : List Sp) : Prop := ∀ (i j : Nat) (s s' : Sp), sp[i]? = some s → s.t = true → sp[j]? = some s' → s'.t = true → s.x.txt = s'.x.txt → i = j
theorem Uq.nil : Uq [] := by intro i j s s' e; cases e
theorem Uq.hit (u : Uq sp) (hs : sp[i]? = some s) (ht : s.t = true) : named sp s.x.txt = some (i, s) := by
  cases hn : named sp s.x.txt with
  | none => exact absurd rfl (named_none hn hs ht)
  | some p =>
    obtain ⟨j, s'⟩ := p
    obtain ⟨h1, h2, h3⟩ := named_some hn
    have := u i j s s' hs ht h1 h2 h3.symm
    subst this
    rw [hs] at h1; cases h1; rfl
theorem set_gone {j : Nat} {s' : Sp} (hj : (sp.set i (gone s))[j]? = some s') (ht : s'.t = true) : j ≠ i ∧ sp[j]? = some s' := by
  rw [List.getElem?_set] at hj
  split at hj
  · split at hj
    · cases hj; rw [gone_t] at ht; cases ht
    · cases hj
  · rename_i e; exact ⟨fun q => e q.symm, hj⟩
theorem Uq.drop (u : Uq sp) : Uq (sp.set i (gone s)) := by
  intro a b s1 s2 h1 t1 h2 t2 e
  exact u a b s1 s2 (set_gone h1 t1).2 t1 (set_gone h2 t2).2 t2 e
theorem placed.old (p : placed sp fr x i g sp' fr') (f : Fre sp fr) (hs : sp[j]? = some s) (ht : s.t = true) : j ≠ i ∧ sp'[j]? = some s := by
  have n : j ≠ i := by
    rintro rfl
    rcases p with ⟨-, e, -⟩ | ⟨s', h1, -⟩
    · have := (List.getElem?_eq_some_iff.1 hs).1; omega
    · obtain ⟨u, u1, u2⟩ := f.fz j (by rw [h1]; simp)
      rw [hs] at u1; cases u1; rw [ht] at u2; cases u2
  exact ⟨n, (p.ne n).trans hs⟩
theorem Uq.add (u : Uq sp) (p : placed sp fr x i g sp' fr') (hn : Rot.named sp x.txt = none) : Uq sp' := by
  intro a b s1 s2 h1 t1 h2 t2 e
  have f : ∀ {j : Nat} {w : Sp}, sp'[j]? = some w → w.t = true → j ≠ i → w.x.txt ≠ x.txt := fun {j w} hj tj e => by
    rw [p.ne e] at hj
    exact named_none hn hj tj
  by_cases e1 : a = i <;> by_cases e2 : b = i
  · rw [e1, e2]
  · subst e1; rw [p.at] at h1; cases h1
    exact absurd e.symm (f h2 t2 e2)
  · subst e2; rw [p.at] at h2; cases h2
    exact absurd e (f h1 t1 e1)
  · rw [p.ne e1] at h1; rw [p.ne e2] at h2
    exact u a b s1 s2 h1 t1 h2 t2 e
/-! ### Acts -/
structure Act where
  kind : Int
  h : Int
  owner : Int
  m : Raw
  tgt : Nat
  raw : Nat
  strong : Bool
def av (a : Act) : List Value := .int .i64 a.kind :: .int .i64 a.h :: .int .i64 a.owner :: (mc a.m ++ [.int .u64 (a.tgt : Int), .int .u64 (a.raw : Int), .bool a.strong])
structure Act.Ok (h : Hp) (a : Act) : Prop where
  top : ∃ rows m, Top h a.m rows m
  tgt : a.tgt < 18446744073709551616
  raw : a.raw < 18446744073709551616
theorem Act.Ok.step {a : Act} (k : a.Ok h) (s : Step [] h [] h') : a.Ok h' := ⟨by obtain ⟨r, m, t⟩ := k.top; exact ⟨r, m, t.step s⟩, k.tgt, k.raw⟩
/-- What an act's block has. -/
def AB (h : Hp) (b : Nat) (a : Act) : Prop := h b = some (.cells (av a).toArray T.tenonlaw22_Act (0, 0))
theorem AB.step {b : Nat} {a : Act} (m : AB h b a) (s : Step [] h [] h') : AB h' b a := s.keepB0 m
theorem AB.c0 {b : Nat} {a : Act} (m : AB h b a) : h.cell? ((⟨b, 0, none⟩ : Addr).add 0) = some (.int .i64 a.kind) := by rw [Addr.add_mk, cell_of m]; rfl
theorem AB.c1 {b : Nat} {a : Act} (m : AB h b a) : h.cell? ((⟨b, 0, none⟩ : Addr).add 1) = some (.int .i64 a.h) := by rw [Addr.add_mk, cell_of m]; rfl
theorem AB.c2 {b : Nat} {a : Act} (m : AB h b a) : h.cell? ((⟨b, 0, none⟩ : Addr).add 2) = some (.int .i64 a.owner) := by rw [Addr.add_mk, cell_of m]; rfl
theorem av_late {a : Act} (k : a.m.Ok) (j : Nat) : (av a)[23 + j]? = [Value.int .u64 (a.tgt : Int), .int .u64 (a.raw : Int), .bool a.strong][j]? := by
  unfold av
  rw [show 23 + j = (20 + j) + 1 + 1 + 1 by omega, List.getElem?_cons_succ, List.getElem?_cons_succ, List.getElem?_cons_succ, List.getElem?_append_right (by rw [mc_len k]; omega), mc_len k, show 20 + j - 20 = j by omega]
theorem AB.late {b : Nat} {a : Act} (m : AB h b a) (k : a.m.Ok) (j : Nat) : h.cell? ((⟨b, 0, none⟩ : Addr).add (23 + j)) = [Value.int .u64 (a.tgt : Int), .int .u64 (a.raw : Int), .bool a.strong][j]? := by
  rw [Addr.add_mk, cell_of m, Nat.zero_add, List.getElem?_toArray, av_late k]
theorem AB.c23 {b : Nat} {a : Act} (m : AB h b a) (k : a.m.Ok) : h.cell? ((⟨b, 0, none⟩ : Addr).add 23) = some (.int .u64 (a.tgt : Int)) := m.late k 0
theorem AB.c24 {b : Nat} {a : Act} (m : AB h b a) (k : a.m.Ok) : h.cell? ((⟨b, 0, none⟩ : Addr).add 24) = some (.int .u64 (a.raw : Int)) := m.late k 1
theorem AB.c25 {b : Nat} {a : Act} (m : AB h b a) (k : a.m.Ok) : h.cell? ((⟨b, 0, none⟩ : Addr).add 25) = some (.bool a.strong) := m.late k 2
end Go.Den.Rot
end

section
set_option linter.unusedVariables false
set_option maxRecDepth 100000
namespace Go.Den.Rot
open Go Go.Den Go.Den.Mon
variable {h h' : Hp} {c c' : Col} {K : Value → Hp → Prop} {S A most : Nat} {sp sp' : List Sp} {fr fr' : List Nat} {i j g : Nat} {s : Sp} {x : Ent}
theorem st_of {Q : Rg → Prop} (hq : ¬ Q z0) (q : Chg Q h (fun _ => z0) h' c') : Step [] h [] h' := (q.weak (S' := fun r => r ≠ z0) fun r e => by rintro rfl; exact hq e).step0
end Go.Den.Rot
end

section
set_option linter.unusedVariables false
set_option maxRecDepth 100000
namespace Go.Den.Rot
open Go Go.Den Go.Den.Mon
variable {h : Hp} {c : Col} {K : Value → Hp → Prop}

def rsc (s : RSp) : List Value := [.int .i64 0, .int .u32 s.g, .int .i64 s.st]
structure RAr (h : Hp) (c : Col) (A : Nat) (most : Nat) (gs : List RSp) (fr : List Nat) (sa : Option Addr) (sc : Nat) (fa : Option Addr) (fc : Nat) : Prop where
  blk : h A = some (.cells #[.int .i64 most, .int .u32 1, .slice sa gs.length sc, .slice fa fr.length fc] T.tenonref02_Arena (0, 0))
  col : c A = (3, 1)
  spots : Sl h c (3, 2) T.tenonref02_Spot 3 sa gs.length sc (gs.flatMap rsc)
  free : Sl h c (3, 3) T.int 1 fa fr.length fc (ints fr)
  g : ∀ s ∈ gs, s.g < 4294967296
  len : gs.length ≤ most ∧ most ≤ 65536
  frok : ∀ i ∈ fr, i < gs.length
  frlen : fr.length ≤ 65536
def RArAt (h : Hp) (c : Col) (A : Nat) (most : Nat) (gs : List RSp) (fr : List Nat) : Prop := ∃ sa sc fa fc, RAr h c A most gs fr sa sc fa fc
def arR : Rg → Prop := fun r => r = (3, 1) ∨ r = (3, 2) ∨ r = (3, 3)

variable {A most : Nat} {gs : List RSp} {fr : List Nat}
theorem RArAt.keep {h' : Hp} {c' : Col} (t : RArAt h c A most gs fr) (s : Same arR h c h' c') : RArAt h' c' A most gs fr := by
  obtain ⟨sa, sc, fa, fc, t⟩ := t
  obtain ⟨e1, e2⟩ := s A (by rw [t.col]; exact .inl rfl)
  exact ⟨sa, sc, fa, fc, e1.trans t.blk, e2.trans t.col, t.spots.keep (s.weak fun r e => by rw [e]; exact .inr (.inl rfl)), t.free.keep (s.weak fun r e => by rw [e]; exact .inr (.inr rfl)), t.g, t.len, t.frok, t.frlen⟩

/-! ### A handle's place -/
end Go.Den.Rot
end

section
set_option linter.unusedVariables false
set_option maxRecDepth 100000
namespace Go.Den.Rot
open Go Go.Den Go.Den.Mon
variable {h : Hp} {c : Col} {K : Value → Hp → Prop} {A most : Nat} {gs : List RSp} {fr : List Nat}

/-! ### All handles -/
def hds (l : List Nat) : List Value := l.map fun (n : Nat) => .int .u64 (n : Int)

end Go.Den.Rot
end

section
set_option linter.unusedVariables false
set_option maxRecDepth 100000
namespace Go.Den
section
variable {α : Type} {f : α → List Value} {sz : Nat}
theorem fmo_len : ∀ {L : List α}, (∀ a ∈ L, (f a).length = sz) → (L.flatMap f).length = L.length * sz
  | [], _ => by simp
  | x :: L, hf => by
    rw [List.flatMap_cons, List.length_append, hf x (by simp), fmo_len fun a ha => hf a (by simp [ha]), List.length_cons, Nat.add_mul]; omega
theorem fmo_get : ∀ {L : List α} {i j : Nat} {a : α}, (∀ a ∈ L, (f a).length = sz) → L[i]? = some a → j < sz → (L.flatMap f)[i * sz + j]? = (f a)[j]?
  | [], _, _, _, _, hi, _ => by cases hi
  | x :: L, i, j, a, hf, hi, hj => by
    have kx := hf x (by simp)
    rw [List.flatMap_cons]
    cases i with
    | zero => simp at hi; subst hi; rw [Nat.zero_mul, Nat.zero_add, List.getElem?_append_left (by omega)]
    | succ i =>
      rw [Nat.add_mul, List.getElem?_append_right (by omega), kx, show i * sz + 1 * sz + j - sz = i * sz + j by omega]
      exact fmo_get (fun a ha => hf a (by simp [ha])) (by simpa using hi) hj
end
end Go.Den
namespace Go.Den.Rot
open Go Go.Den Go.Den.Mon
variable {h h' : Hp} {c c' : Col} {K : Value → Hp → Prop} {R most : Nat} {gs gs' : List RSp} {fr fr' : List Nat} {DL : List DE} {d : DE} {i j : Nat}
def dv (d : DE) : List Value := .int .u64 (d.h : Int) :: .int .i64 d.owner :: (mc d.m ++ [.int .u64 (d.tgt : Int), .bool d.strong])
theorem dv_len (k : d.m.Ok) : (dv d).length = 24 := by simp [dv, mc_len k]
/-- A name that an entry has. -/
structure EntAt (h : Hp) (c : Col) (d : DE) : Prop where
  m : ∃ a cap, d.m = ofRaw a cap d.l ∧ Sl h c (3, 6) T.api_Moniker 20 a d.l.length cap (mcs d.l)
  ok : okL d.l
  len : d.l.length ≤ 64
theorem EntAt.keep (e : EntAt h c d) (s : Same (fun r => r = (3, 6)) h c h' c') : EntAt h' c' d := by
  obtain ⟨⟨a, cap, e1, e2⟩, e3, e4⟩ := e
  exact ⟨⟨a, cap, e1, e2.keep s⟩, e3, e4⟩
theorem EntAt.mok (e : EntAt h c d) : d.m.Ok := by
  obtain ⟨⟨a, cap, e1, e2⟩, e3, e4⟩ := e
  rw [e1]; exact ofRaw_ok fun r hr => (e3 r hr).1
/-- The document's table. -/
structure RTb (h : Hp) (c : Col) (R most : Nat) (gs : List RSp) (fr : List Nat) (DL : List DE) (A : Nat) (a : Option Addr) (cap : Nat) : Prop where
  blk : h R = some (.cells #[.pointer (some ⟨A, 0, none⟩), .slice a DL.length cap] T.tenonref22_Table (0, 0))
  col : c R = (3, 4)
  ar : RArAt h c A most gs fr
  sl : Sl h c (3, 5) T.tenonref22_Entry 24 a DL.length cap (DL.flatMap dv)
  ents : ∀ d ∈ DL, EntAt h c d
def RT (h : Hp) (c : Col) (R most : Nat) (gs : List RSp) (fr : List Nat) (DL : List DE) : Prop := ∃ A a cap, RTb h c R most gs fr DL A a cap
def dR : Rg → Prop := fun r => r.1 = 3
theorem dR_z : ¬ dR z0 := by simp [dR]
theorem arR_dR {r : Rg} (e : arR r) : dR r := by rcases e with rfl | rfl | rfl <;> rfl
theorem RTb.keep {A : Nat} {a : Option Addr} {cap : Nat} (t : RTb h c R most gs fr DL A a cap) (s : Same dR h c h' c') : RTb h' c' R most gs fr DL A a cap := by
  obtain ⟨e1, e2⟩ := s R (by rw [t.col]; rfl)
  exact ⟨e1.trans t.blk, e2.trans t.col, t.ar.keep (s.weak fun r e => arR_dR e), t.sl.keep (s.weak fun r e => by rw [e]; rfl), fun d hd => (t.ents d hd).keep (s.weak fun r e => by rw [e]; rfl)⟩
theorem RT.keep (t : RT h c R most gs fr DL) (s : Same dR h c h' c') : RT h' c' R most gs fr DL := by obtain ⟨A, a, cap, t⟩ := t; exact ⟨A, a, cap, t.keep s⟩
theorem RTb.read {A : Nat} {a : Option Addr} {cap : Nat} {o : List Nat} (t : RTb h c R most gs fr DL A a cap) (w : WF h c) (s : Step [] h o h') : RTb h' c R most gs fr DL A a cap := t.keep (same_read w dR_z s)
theorem RT.read {o : List Nat} (t : RT h c R most gs fr DL) (w : WF h c) (s : Step [] h o h') : RT h' c R most gs fr DL := t.keep (same_read w dR_z s)
theorem RTb.dlen {A : Nat} {a : Option Addr} {cap : Nat} (t : RTb h c R most gs fr DL A a cap) : ∀ d ∈ DL, (dv d).length = 24 := fun d hd => dv_len (t.ents d hd).mok
/-- A cell of an entry. -/
theorem RTb.cell {A : Nat} {a : Option Addr} {cap : Nat} (t : RTb h c R most gs fr DL A a cap) (hd : DL[i]? = some d) (hj : j < 24) : ∃ b off, a = some ⟨b, off, none⟩ ∧ c b = (3, 5) ∧ h.cell? ⟨b, off + i * 24 + j, none⟩ = (dv d)[j]? := by
  have hl := (List.getElem?_eq_some_iff.1 hd).1
  have e := fmo_get t.dlen hd hj
  obtain ⟨b, off, e1, e2, e3, -, -⟩ := t.sl.at (j := i * 24 + j) (by
    rw [fmo_len t.dlen]
    have : (i + 1) * 24 ≤ DL.length * 24 := Nat.mul_le_mul_right 24 hl
    omega)
  exact ⟨b, off, e1, e2, by rw [Nat.add_assoc, e3, e]⟩
theorem RTb.row {A : Nat} {a : Option Addr} {cap : Nat} (t : RTb h c R most gs fr DL A a cap) (hd : DL[i]? = some d) : ∃ b off, a = some ⟨b, off, none⟩ ∧ c b = (3, 5) ∧ CellsAt h ⟨b, off + i * 24, none⟩ 24 (dv d).toArray := by
  obtain ⟨b, off, e1, e2, -⟩ := t.cell hd (j := 0) (by omega)
  have kd := t.dlen d (List.mem_of_getElem? hd)
  refine ⟨b, off, e1, e2, by simpa using kd, fun j v hv => ?_⟩
  have hj : j < 24 := by
    have := (Array.getElem?_eq_some_iff.1 hv).1
    simpa [kd] using this
  obtain ⟨b', off', e3, -, e4⟩ := t.cell hd hj
  rw [e1] at e3; cases e3
  rw [Addr.add_mk, e4, ← hv, List.getElem?_toArray]
/-! ### New -/
/-! ### At -/
end Go.Den.Rot
end

section
set_option linter.unusedVariables false
set_option maxRecDepth 100000
namespace Go.Den.Rot
open Go Go.Den Go.Den.Mon
variable {h h' : Hp} {c c' : Col} {K : Value → Hp → Prop} {R most : Nat} {sp : List Sp} {gs gs' : List RSp} {fr fr' : List Nat} {DL : List DE} {d : DE} {i j : Nat} {s : Sp}
theorem Cor.dlen (C : Cor sp fr gs DL) : DL.length ≤ 65536 := by
  have key : ∀ d ∈ DL, ∃ (i : Nat) (s : Sp), sp[i]? = some s ∧ d.h = hd i s.g ∧ (d.h - 1) % 4294967296 = i := fun d hd => by
    obtain ⟨i, s, h1, -, al⟩ := C.too d hd
    have := (C.lt h1).1
    refine ⟨i, s, h1, al.h, ?_⟩
    rw [al.h]; unfold Rot.hd; omega
  have nd : (DL.map fun d => (d.h - 1) % 4294967296).Nodup := by
    unfold List.Nodup
    rw [List.pairwise_map]
    refine C.un.imp_of_mem fun {a b} ha hb hne e => ?_
    obtain ⟨i, s, h1, h2, h3⟩ := key a ha
    obtain ⟨j, s', h4, h5, h6⟩ := key b hb
    have : i = j := by rw [← h3, ← h6, e]
    subst this
    rw [h1] at h4; cases h4
    exact hne (h2.trans h5.symm)
  have := nodup_le (n := sp.length) nd fun x hx => by
    obtain ⟨d, hd, rfl⟩ := List.mem_map.1 hx
    obtain ⟨i, s, h1, -, h3⟩ := key d hd
    rw [h3]; exact (List.getElem?_eq_some_iff.1 h1).1
  rw [List.length_map] at this
  have := C.len
  omega
theorem RT.frok (t : RT h c R most gs fr DL) : ∀ i ∈ fr, i < gs.length := by
  obtain ⟨A, a, cap, t⟩ := t
  obtain ⟨_, _, _, _, r⟩ := t.ar
  exact r.frok
theorem RT.fre (t : RT h c R most gs fr DL) (C : Cor sp fr gs DL) : Fre sp fr := C.fre fun i hi => by rw [C.gl]; exact t.frok i hi
end Go.Den.Rot
end

section
set_option linter.unusedVariables false
set_option maxRecDepth 100000
namespace Go.Den.Rot
open Go Go.Den Go.Den.Mon
variable {h h' : Hp} {c c' : Col} {K : Value → Hp → Prop} {S A most : Nat} {sp sp' : List Sp} {fr fr' : List Nat} {i j g : Nat} {s : Sp} {x : Ent}
theorem Die_nil {tg : Nat} (hk : ∀ h', Step [] h [] h' → K (.int .i64 0) h') : HC P rot_Table_Die.n #[.pointer none, .int .u64 (tg : Int)] h K := by
  refine rot_Table_Die.hc ?_
  unfold rot_Table_Die
  intro b0 hb0 b1 hb1
  obtain ⟨n10, hb1⟩ := put_none hb1
  refine ⟨none, by rw [cell_of (show _ = some (Obj.cells #[.pointer none] T.ptr_rot_Table (0, 0)) by rw [put_ne (Ne.symm n10), put_self])]; rfl, bcT rfl ?_⟩
  unfold rot_Table_Die.k0
  exact hk _ ((Step.put (.inr hb0)).trans (Step.put (.inr (by rw [put_ne n10]; exact hb1))))
end Go.Den.Rot
end

section
set_option linter.unusedVariables false
set_option maxRecDepth 100000
namespace Go.Den.Rot
open Go Go.Den Go.Den.Mon
variable {h h' : Hp} {c c' : Col} {K : Value → Hp → Prop} {S A most : Nat} {sp sp' : List Sp} {fr fr' : List Nat} {i j g : Nat} {s : Sp} {x : Ent}
theorem Leave_nil {ow : Int} (hk : ∀ h', Step [] h [] h' → K (.slice none 0 0) h') : HC P rot_Table_Leave.n #[.pointer none, .int .i64 ow] h K := by
  refine rot_Table_Leave.hc ?_
  unfold rot_Table_Leave
  intro b0 hb0 b1 hb1
  obtain ⟨n10, hb1⟩ := put_none hb1
  refine ⟨none, by rw [cell_of (show _ = some (Obj.cells #[.pointer none] T.ptr_rot_Table (0, 0)) by rw [put_ne (Ne.symm n10), put_self])]; rfl, bcT rfl ?_⟩
  unfold rot_Table_Leave.k0
  exact hk _ ((Step.put (.inr hb0)).trans (Step.put (.inr (by rw [put_ne n10]; exact hb1))))
end Go.Den.Rot
end

section
set_option linter.unusedVariables false
set_option maxRecDepth 100000
namespace Go.Den.Rot
open Go Go.Den Go.Den.Mon
variable {hb h h' : Hp} {c c' : Col} {K : Value → Hp → Prop} {p S R most n b0 : Nat} {sp : List Sp} {gs : List RSp} {fr : List Nat} {DL : List DE} {d : DE} {i j : Nat} {s : Sp} {a : Act}
def lw : Rg → Prop := fun r => r ≠ z0
theorem lw_z : ¬ lw z0 := fun e => e rfl
structure PairT (h : Hp) (c : Col) (p S R most n : Nat) (sp : List Sp) (fr : List Nat) (gs : List RSp) (DL : List DE) (gl : List Nat) (ga : Option Addr) (cap : Nat) : Prop where
  blk : h p = some (.cells #[.pointer (some ⟨S, 0, none⟩), .pointer (some ⟨R, 0, none⟩), .slice ga gl.length cap] T.tenonlaw22_Pair (0, 0))
  col : c p = (10, 0)
  P : PSt h c S most sp fr
  R : RT h c R most gs fr DL
  C : Cor sp fr gs DL
  giv : Sl h c (10, 1) T.uint64 1 ga gl.length cap (hds gl)
  lt : ∀ x ∈ gl, x < 18446744073709551616
  len : gl.length ≤ n
def Pr (h : Hp) (c : Col) (p S R most n : Nat) : Prop := ∃ sp fr gs DL gl ga cap, PairT h c p S R most n sp fr gs DL gl ga cap
variable {gl : List Nat} {ga : Option Addr} {cap : Nat}
theorem PairT.keepOld (t : PairT h c p S R most n sp fr gs DL gl ga cap) (w : WF h c) {Q : Rg → Prop} (q : Chg Q h c h' c') (hQ : ∀ r, Q r → r.1 ≠ 10) : h' p = h p ∧ c' p = (10, 0) ∧ Sl h' c' (10, 1) T.uint64 1 ga gl.length cap (hds gl) := by
  obtain ⟨e1, e2⟩ := q.keep p (w p (by rw [t.col]; simp)) (fun e => by rw [t.col] at e; exact hQ _ e rfl)
  exact ⟨e1, e2.trans t.col, t.giv.keep (q.same w fun r e => ⟨by rw [e]; simp, fun e' => by rw [e] at e'; exact hQ _ e' rfl⟩)⟩
theorem PairT.read {o : List Nat} (t : PairT h c p S R most n sp fr gs DL gl ga cap) (w : WF h c) (s : Step [] h o h') : PairT h' c p S R most n sp fr gs DL gl ga cap := by
  obtain ⟨e1, -, e3⟩ := t.keepOld w (Chg.of_read (S := fun _ => False) s w) (by simp)
  exact ⟨e1.trans t.blk, t.col, t.P.read w s, t.R.read w s, t.C, e3, t.lt, t.len⟩
/-- A moniker that stays. -/
theorem Act.Ok.later (k : a.Ok hb) (q : Chg lw hb (fun _ => z0) h c) : a.Ok h := k.step (st_of lw_z q)
end Go.Den.Rot
end

section
set_option linter.unusedVariables false
set_option maxRecDepth 100000
namespace Go.Den.Rot
open Go Go.Den Go.Den.Mon
variable {hb h h' : Hp} {c c' : Col} {K : Value → Hp → Prop} {p S R most n b0 : Nat} {sp : List Sp} {gs : List RSp} {fr : List Nat} {DL : List DE} {d : DE} {i j : Nat} {s : Sp} {a : Act} {gl : List Nat} {ga : Option Addr} {cap : Nat}
theorem PairT.pr (t : PairT h c p S R most n sp fr gs DL gl ga cap) : Pr h c p S R most (n + 1) := ⟨sp, fr, gs, DL, gl, ga, cap, t.blk, t.col, t.P, t.R, t.C, t.giv, t.lt, by have := t.len; omega⟩
end Go.Den.Rot
end

section
set_option linter.unusedVariables false
set_option maxRecDepth 100000
namespace Go.Den.Mon
open Go Go.Den

noncomputable section

def rot_Table_All (p0 : Option Addr) (K : Value → Hp → Prop) (h : Hp) : Prop :=
 (∀ b0 : Nat, ((h b0) = none → K (.func (.func rot_Table_All_1.n) #[] #[.pointer (some ⟨b0, 0, none⟩)]) (h.put b0 (.cells #[.pointer p0] T.ptr_rot_Table (0, 0)))))
theorem rot_Table_All.hc {p0 : Option Addr} {K : Value → Hp → Prop} {h : Hp} (hh : rot_Table_All p0 K h) : HC P rot_Table_All.n #[.pointer p0] h K :=
  HC_of_den (fn := Go.Proofs.Tryz.f29) (args := [.pointer p0]) Go.Proofs.Tryz.func29 rfl (Nat.le_of_ble_eq_true (by kernel_rfl)) (den_cast hh (by kernel_rfl))

def rot_Table_All_1.k0 (K : Value → Hp → Prop) (h : Hp) (b0 : Nat) (l0 : Nat) : Prop :=
 K (.tuple #[]) (h.put b0 (.cells #[.func (.yield l0) #[] #[]] T.func_uint64_api_Moniker_bool (0, 0)))
def rot_Table_All_1.k1 (b3 : Bool) (h3 : Hp) (l1 : Nat) (R0 : Rec) (K0 : Value → Hp → Prop) : Prop :=
 bcase ((!b3))
 (((h3 l1) = (some R0.busy)) ∧ K0 (.bool Bool.false) (h3.put l1 (R0.done .ret)))
 (((h3 l1) = (some R0.busy)) ∧ K0 (.bool Bool.true) (h3.put l1 R0.ready))
def rot_Table_All_1.k2 (h2 : Hp) (cs1 : Array Value) (b0 : Nat) (n0 : Int) (l1 : Nat) (R0 : Rec) (K0 : Value → Hp → Prop) : Prop :=
 (∀ b2 : Nat, ((h2 b2) = none → (cs1.size = 20) ∧ (∀ v3 : Value, (v3 ∈ (Array.toList cs1 : List Value) → (Den.cellish v3) = Bool.true)) ∧ (Free (h2.put b2 (.cells #[.int .i64 0, .int .u8 0, .int .u8 0, .int .u8 0, .int .u8 0, .int .u8 0, .int .u8 0, .int .u8 0, .int .u8 0, .int .u8 0, .int .u8 0, .int .u8 0, .int .u8 0, .int .u8 0, .int .u8 0, .int .u8 0, .int .u8 0, .string (⟨#[]⟩ : ByteArray), .int .u64 0, .slice none 0 0] T.api_Moniker (0, 0))) ⟨b2, 0, none⟩ 20) ∧ ((∃ g1 : Nat, (∃ first1 : Array Value, (∃ cap1 : Array Value, ((((h2.put b2 (.cells #[.int .i64 0, .int .u8 0, .int .u8 0, .int .u8 0, .int .u8 0, .int .u8 0, .int .u8 0, .int .u8 0, .int .u8 0, .int .u8 0, .int .u8 0, .int .u8 0, .int .u8 0, .int .u8 0, .int .u8 0, .int .u8 0, .int .u8 0, .string (⟨#[]⟩ : ByteArray), .int .u64 0, .slice none 0 0] T.api_Moniker (0, 0))).setCells ⟨b2, 0, none⟩ cs1).cell? ⟨b0, 0, none⟩) = (some (.func (.func g1) first1 cap1))) ∧ (∃ cs2 : Array Value, (CellsAt ((h2.put b2 (.cells #[.int .i64 0, .int .u8 0, .int .u8 0, .int .u8 0, .int .u8 0, .int .u8 0, .int .u8 0, .int .u8 0, .int .u8 0, .int .u8 0, .int .u8 0, .int .u8 0, .int .u8 0, .int .u8 0, .int .u8 0, .int .u8 0, .int .u8 0, .string (⟨#[]⟩ : ByteArray), .int .u64 0, .slice none 0 0] T.api_Moniker (0, 0))).setCells ⟨b2, 0, none⟩ cs1) ⟨b2, 0, none⟩ 20 cs2) ∧ trueD (callable P g1) (HC P g1 (Array.mk (Array.toList first1 ++ ((.int .u64 n0) :: ((.agg cs2) :: (List.append [] (Array.toList cap1)))))) ((h2.put b2 (.cells #[.int .i64 0, .int .u8 0, .int .u8 0, .int .u8 0, .int .u8 0, .int .u8 0, .int .u8 0, .int .u8 0, .int .u8 0, .int .u8 0, .int .u8 0, .int .u8 0, .int .u8 0, .int .u8 0, .int .u8 0, .int .u8 0, .int .u8 0, .string (⟨#[]⟩ : ByteArray), .int .u64 0, .slice none 0 0] T.api_Moniker (0, 0))).setCells ⟨b2, 0, none⟩ cs1) (fun v4 h3 => (∃ b3 : Bool, (v4 = (.bool b3)) ∧ (rot_Table_All_1.k1 b3 h3 l1 R0 K0)))))))) ∨ (∃ l2 : Nat, (∃ first2 : Array Value, (∃ cap2 : Array Value, ((((h2.put b2 (.cells #[.int .i64 0, .int .u8 0, .int .u8 0, .int .u8 0, .int .u8 0, .int .u8 0, .int .u8 0, .int .u8 0, .int .u8 0, .int .u8 0, .int .u8 0, .int .u8 0, .int .u8 0, .int .u8 0, .int .u8 0, .int .u8 0, .int .u8 0, .string (⟨#[]⟩ : ByteArray), .int .u64 0, .slice none 0 0] T.api_Moniker (0, 0))).setCells ⟨b2, 0, none⟩ cs1).cell? ⟨b0, 0, none⟩) = (some (.func (.yield l2) first2 cap2))) ∧ (∃ cs3 : Array Value, (CellsAt ((h2.put b2 (.cells #[.int .i64 0, .int .u8 0, .int .u8 0, .int .u8 0, .int .u8 0, .int .u8 0, .int .u8 0, .int .u8 0, .int .u8 0, .int .u8 0, .int .u8 0, .int .u8 0, .int .u8 0, .int .u8 0, .int .u8 0, .int .u8 0, .int .u8 0, .string (⟨#[]⟩ : ByteArray), .int .u64 0, .slice none 0 0] T.api_Moniker (0, 0))).setCells ⟨b2, 0, none⟩ cs1) ⟨b2, 0, none⟩ 20 cs3) ∧ HY P l2 (Array.mk (Array.toList first2 ++ [.int .u64 n0, .agg cs3])) ((h2.put b2 (.cells #[.int .i64 0, .int .u8 0, .int .u8 0, .int .u8 0, .int .u8 0, .int .u8 0, .int .u8 0, .int .u8 0, .int .u8 0, .int .u8 0, .int .u8 0, .int .u8 0, .int .u8 0, .int .u8 0, .int .u8 0, .int .u8 0, .int .u8 0, .string (⟨#[]⟩ : ByteArray), .int .u64 0, .slice none 0 0] T.api_Moniker (0, 0))).setCells ⟨b2, 0, none⟩ cs1) (fun v5 h4 => (∃ b4 : Bool, (v5 = (.bool b4)) ∧ (rot_Table_All_1.k1 b4 h4 l1 R0 K0))))))))))
def rot_Table_All_1.k3 (h5 : Hp) (l1 : Nat) (R0 : Rec) (K : Value → Hp → Prop) : Prop :=
 ((((h5 l1) = (some R0.ready)) ∧ K (.tuple #[]) (h5.put l1 R0.over)) ∨ ((((h5 l1) = (some (R0.done .ret))) ∧ K (.tuple #[]) (h5.put l1 (R0.overBy .ret))) ∨ False))
def rot_Table_All_1.k4 (g0 : Nat) (h0 : Hp) (b0 : Nat) (first0 : Array Value) (cap0 : Array Value) (K : Value → Hp → Prop) : Prop :=
 trueD (callable P g0) ((∀ l1 : Nat, (∀ R0 : Rec, ((h0 l1) = none → ((∀ n0 : Int, (∀ cs0 : Array Value, (∀ h1 : Hp, (∀ K0 : Value → Hp → Prop, ((h1 l1) = (some R0.ready) → ((∀ b1 : Nat, ((h1 b1) = none → (cs0.size = 4) ∧ (∀ v1 : Value, (v1 ∈ (Array.toList cs0 : List Value) → (Den.cellish v1) = Bool.true)) ∧ (Free (h1.put b1 (.cells #[.int .i64 0, .string (⟨#[]⟩ : ByteArray), .int .u64 0, .bool Bool.false] T.rot_entry (0, 0))) ⟨b1, 0, none⟩ 4) ∧ ((((h1.put b1 (.cells #[.int .i64 0, .string (⟨#[]⟩ : ByteArray), .int .u64 0, .bool Bool.false] T.rot_entry (0, 0))).setCells ⟨b1, 0, none⟩ cs0) l1) = (some R0.ready)) ∧ (∃ s0 : ByteArray, (((((h1.put b1 (.cells #[.int .i64 0, .string (⟨#[]⟩ : ByteArray), .int .u64 0, .bool Bool.false] T.rot_entry (0, 0))).setCells ⟨b1, 0, none⟩ cs0).put l1 R0.busy).cell? ((⟨b1, 0, none⟩ : Addr).add 1)) = (some (.string s0))) ∧ HC P moniker_Parse.n #[.string s0] (((h1.put b1 (.cells #[.int .i64 0, .string (⟨#[]⟩ : ByteArray), .int .u64 0, .bool Bool.false] T.rot_entry (0, 0))).setCells ⟨b1, 0, none⟩ cs0).put l1 R0.busy) (fun v2 h2 => (∃ cs1 : Array Value, (∃ n1 : Int, (v2 = (.tuple #[.agg cs1, .int .i64 n1])) ∧ (rot_Table_All_1.k2 h2 cs1 b0 n0 l1 R0 K0))))))) → HY P l1 #[.int .u64 n0, .agg cs0] h1 (K0))))))) → HC P g0 (Array.mk (Array.toList first0 ++ ((.func (.yield l1) #[] #[]) :: (Array.toList cap0)))) (h0.put l1 R0.ready) (fun x0 h5 => (rot_Table_All_1.k3 h5 l1 R0 K)))))))
def rot_Table_All_1.k5 (fv0 : Option Addr) (h : Hp) (b0 : Nat) (l0 : Nat) (K : Value → Hp → Prop) : Prop :=
 someD fv0 (fun p1 => (∃ a1 : Option Addr, (((h.put b0 (.cells #[.func (.yield l0) #[] #[]] T.func_uint64_api_Moniker_bool (0, 0))).cell? p1) = (some (.pointer a1))) ∧ someD a1 (fun p2 => (∃ a2 : Option Addr, (((h.put b0 (.cells #[.func (.yield l0) #[] #[]] T.func_uint64_api_Moniker_bool (0, 0))).cell? (p2.add 0)) = (some (.pointer a2))) ∧ HC P arena_Arena_rot_entry_All.n #[.pointer a2] (h.put b0 (.cells #[.func (.yield l0) #[] #[]] T.func_uint64_api_Moniker_bool (0, 0))) (fun v0 h0 => (∃ g0 : Nat, (∃ first0 : Array Value, (∃ cap0 : Array Value, (v0 = (.func (.func g0) first0 cap0)) ∧ (rot_Table_All_1.k4 g0 h0 b0 first0 cap0 K)))))))))
def rot_Table_All_1 (l0 : Nat) (fv0 : Option Addr) (K : Value → Hp → Prop) (h : Hp) : Prop :=
 (∀ b0 : Nat, ((h b0) = none → someD fv0 (fun p0 => (∃ a0 : Option Addr, (((h.put b0 (.cells #[.func (.yield l0) #[] #[]] T.func_uint64_api_Moniker_bool (0, 0))).cell? p0) = (some (.pointer a0))) ∧ bcase (a0.isNone)
 ((rot_Table_All_1.k0 K h b0 l0))
 ((rot_Table_All_1.k5 fv0 h b0 l0 K))))))
theorem rot_Table_All_1.hc {l0 : Nat} {fv0 : Option Addr} {K : Value → Hp → Prop} {h : Hp} (hh : rot_Table_All_1 l0 fv0 K h) : HC P rot_Table_All_1.n #[.func (.yield l0) #[] #[], .pointer fv0] h K :=
  HC_of_den (fn := Go.Proofs.Tryz.f43) (args := [.func (.yield l0) #[] #[], .pointer fv0]) Go.Proofs.Tryz.func43 rfl (Nat.le_of_ble_eq_true (by kernel_rfl)) (den_cast hh (by kernel_rfl))

def law22_told.k0 (h1 : Hp) (b3 : Nat) (cs0 : Array Value) (l0 : Nat) (R0 : Rec) (K0 : Value → Hp → Prop) : Prop :=
 (((((h1.put b3 (.cells #[.int .i64 0, .int .u8 0, .int .u8 0, .int .u8 0, .int .u8 0, .int .u8 0, .int .u8 0, .int .u8 0, .int .u8 0, .int .u8 0, .int .u8 0, .int .u8 0, .int .u8 0, .int .u8 0, .int .u8 0, .int .u8 0, .int .u8 0, .string (⟨#[]⟩ : ByteArray), .int .u64 0, .slice none 0 0] T.api_Moniker (0, 0))).setCells ⟨b3, 0, none⟩ cs0).put l0 R0.busy) l0) = (some R0.busy)) ∧ K0 (.bool Bool.false) ((((h1.put b3 (.cells #[.int .i64 0, .int .u8 0, .int .u8 0, .int .u8 0, .int .u8 0, .int .u8 0, .int .u8 0, .int .u8 0, .int .u8 0, .int .u8 0, .int .u8 0, .int .u8 0, .int .u8 0, .int .u8 0, .int .u8 0, .int .u8 0, .int .u8 0, .string (⟨#[]⟩ : ByteArray), .int .u64 0, .slice none 0 0] T.api_Moniker (0, 0))).setCells ⟨b3, 0, none⟩ cs0).put l0 R0.busy).put l0 (R0.done (.exit 0)))
def law22_told.k1 (n6 : Nat) (n7 : Nat) (a4 : Option Addr) (cs1 : Array Value) (h3 : Hp) (b2 : Nat) (c4 : Nat) (l0 : Nat) (R0 : Rec) (K0 : Value → Hp → Prop) : Prop :=
 ((0 : Int) ≤ (n6 : Int)) ∧ ((n6 : Int) < (n7 : Int)) ∧ someD a4 (fun p1 => ((cs1.size = 20) ∧ (∀ v5 : Value, (v5 ∈ (Array.toList cs1 : List Value) → (Den.cellish v5) = Bool.true)) ∧ (Free h3 (p1.add ((n6 : Int).toNat * 20)) 20) ∧ (∃ u1 : Value, ((h3.setCells (p1.add ((n6 : Int).toNat * 20)) cs1).cell? ⟨b2, 0, none⟩) = (some u1)) ∧ (((h3.setCells (p1.add ((n6 : Int).toNat * 20)) cs1).frozen? ⟨b2, 0, none⟩) = Bool.false) ∧ ((((h3.setCells (p1.add ((n6 : Int).toNat * 20)) cs1).setCell ⟨b2, 0, none⟩ (.slice a4 n7 c4)) l0) = (some R0.busy)) ∧ K0 (.bool Bool.true) (((h3.setCells (p1.add ((n6 : Int).toNat * 20)) cs1).setCell ⟨b2, 0, none⟩ (.slice a4 n7 c4)).put l0 R0.ready)) ∧ (∃ u2 : Value, (h3.cell? ⟨b2, 0, none⟩) = (some u2)) ∧ ((h3.frozen? ⟨b2, 0, none⟩) = Bool.false) ∧ (cs1.size = 20) ∧ (∀ v6 : Value, (v6 ∈ (Array.toList cs1 : List Value) → (Den.cellish v6) = Bool.true)) ∧ (Free (h3.setCell ⟨b2, 0, none⟩ (.slice a4 n7 c4)) (p1.add ((n6 : Int).toNat * 20)) 20) ∧ ((((h3.setCell ⟨b2, 0, none⟩ (.slice a4 n7 c4)).setCells (p1.add ((n6 : Int).toNat * 20)) cs1) l0) = (some R0.busy)) ∧ K0 (.bool Bool.true) (((h3.setCell ⟨b2, 0, none⟩ (.slice a4 n7 c4)).setCells (p1.add ((n6 : Int).toNat * 20)) cs1).put l0 R0.ready))
def law22_told.k2 (h2 : Hp) (b1 : Nat) (a2 : Option Addr) (n5 : Nat) (c2 : Nat) (b2 : Nat) (b3 : Nat) (l0 : Nat) (R0 : Rec) (K0 : Value → Hp → Prop) : Prop :=
 (∃ u0 : Value, (h2.cell? ⟨b1, 0, none⟩) = (some u0)) ∧ ((h2.frozen? ⟨b1, 0, none⟩) = Bool.false) ∧ (∃ a3 : Option Addr, (∃ n6 : Nat, (∃ c3 : Nat, (((h2.setCell ⟨b1, 0, none⟩ (.slice a2 n5 c2)).cell? ⟨b2, 0, none⟩) = (some (.slice a3 n6 c3))) ∧ (∃ cs1 : Array Value, (CellsAt (h2.setCell ⟨b1, 0, none⟩ (.slice a2 n5 c2)) ⟨b3, 0, none⟩ 20 cs1) ∧ (((20 : Nat) = 20) ∧ (∀ v3 : Value, (v3 ∈ ([.int .i64 0, .int .u8 0, .int .u8 0, .int .u8 0, .int .u8 0, .int .u8 0, .int .u8 0, .int .u8 0, .int .u8 0, .int .u8 0, .int .u8 0, .int .u8 0, .int .u8 0, .int .u8 0, .int .u8 0, .int .u8 0, .int .u8 0, .string (⟨#[]⟩ : ByteArray), .int .u64 0, .slice none 0 0] : List Value) → (Den.cellish v3) = Bool.true)) ∧ True) ∧ (∀ b5 : Nat, (((h2.setCell ⟨b1, 0, none⟩ (.slice a2 n5 c2)) b5) = none → wpSem P (Builtin.append_ #[T.sl_api_Moniker, T.sl_api_Moniker] T.sl_api_Moniker #[.slice a3 n6 c3, .slice (some ⟨b5, 0, none⟩) 1 1]) (fun v4 h3 => (∃ a4 : Option Addr, (∃ n7 : Nat, (∃ c4 : Nat, (v4 = (.slice a4 n7 c4)) ∧ (law22_told.k1 n6 n7 a4 cs1 h3 b2 c4 l0 R0 K0))))) ((h2.setCell ⟨b1, 0, none⟩ (.slice a2 n5 c2)).put b5 (.cells (Array.mk (catA #[.int .i64 0, .int .u8 0, .int .u8 0, .int .u8 0, .int .u8 0, .int .u8 0, .int .u8 0, .int .u8 0, .int .u8 0, .int .u8 0, .int .u8 0, .int .u8 0, .int .u8 0, .int .u8 0, .int .u8 0, .int .u8 0, .int .u8 0, .string (⟨#[]⟩ : ByteArray), .int .u64 0, .slice none 0 0] [])) T.api_Moniker (0, 0)))))))))
def law22_told.k3 (h1 : Hp) (b3 : Nat) (cs0 : Array Value) (l0 : Nat) (R0 : Rec) (b1 : Nat) (b2 : Nat) (K0 : Value → Hp → Prop) (n1 : Int) : Prop :=
 (∃ a1 : Option Addr, (∃ n4 : Nat, (∃ c1 : Nat, (((((h1.put b3 (.cells #[.int .i64 0, .int .u8 0, .int .u8 0, .int .u8 0, .int .u8 0, .int .u8 0, .int .u8 0, .int .u8 0, .int .u8 0, .int .u8 0, .int .u8 0, .int .u8 0, .int .u8 0, .int .u8 0, .int .u8 0, .int .u8 0, .int .u8 0, .string (⟨#[]⟩ : ByteArray), .int .u64 0, .slice none 0 0] T.api_Moniker (0, 0))).setCells ⟨b3, 0, none⟩ cs0).put l0 R0.busy).cell? ⟨b1, 0, none⟩) = (some (.slice a1 n4 c1))) ∧ (∀ b4 : Nat, (((((h1.put b3 (.cells #[.int .i64 0, .int .u8 0, .int .u8 0, .int .u8 0, .int .u8 0, .int .u8 0, .int .u8 0, .int .u8 0, .int .u8 0, .int .u8 0, .int .u8 0, .int .u8 0, .int .u8 0, .int .u8 0, .int .u8 0, .int .u8 0, .int .u8 0, .string (⟨#[]⟩ : ByteArray), .int .u64 0, .slice none 0 0] T.api_Moniker (0, 0))).setCells ⟨b3, 0, none⟩ cs0).put l0 R0.busy) b4) = none → wpSem P (Builtin.append_ #[T.sl_uint64, T.sl_uint64] T.sl_uint64 #[.slice a1 n4 c1, .slice (some ⟨b4, 0, none⟩) 1 1]) (fun v2 h2 => (∃ a2 : Option Addr, (∃ n5 : Nat, (∃ c2 : Nat, (v2 = (.slice a2 n5 c2)) ∧ (law22_told.k2 h2 b1 a2 n5 c2 b2 b3 l0 R0 K0))))) ((((h1.put b3 (.cells #[.int .i64 0, .int .u8 0, .int .u8 0, .int .u8 0, .int .u8 0, .int .u8 0, .int .u8 0, .int .u8 0, .int .u8 0, .int .u8 0, .int .u8 0, .int .u8 0, .int .u8 0, .int .u8 0, .int .u8 0, .int .u8 0, .int .u8 0, .string (⟨#[]⟩ : ByteArray), .int .u64 0, .slice none 0 0] T.api_Moniker (0, 0))).setCells ⟨b3, 0, none⟩ cs0).put l0 R0.busy).put b4 (.cells #[.int .u64 n1] T.uint64 (0, 0))))))))
def law22_told.k4 (h4 : Hp) (l0 : Nat) (R0 : Rec) (b1 : Nat) (b2 : Nat) (K : Value → Hp → Prop) : Prop :=
 ((((h4 l0) = (some R0.ready)) ∧ (∃ a5 : Option Addr, (∃ n8 : Nat, (∃ c5 : Nat, (((h4.put l0 R0.over).cell? ⟨b1, 0, none⟩) = (some (.slice a5 n8 c5))) ∧ (∃ a6 : Option Addr, (∃ n9 : Nat, (∃ c6 : Nat, (((h4.put l0 R0.over).cell? ⟨b2, 0, none⟩) = (some (.slice a6 n9 c6))) ∧ K (.tuple #[.slice a5 n8 c5, .slice a6 n9 c6]) (h4.put l0 R0.over)))))))) ∨ ((((h4 l0) = (some (R0.done (.exit 0)))) ∧ (∃ a7 : Option Addr, (∃ n10 : Nat, (∃ c7 : Nat, (((h4.put l0 (R0.overBy (.exit 0))).cell? ⟨b1, 0, none⟩) = (some (.slice a7 n10 c7))) ∧ (∃ a8 : Option Addr, (∃ n11 : Nat, (∃ c8 : Nat, (((h4.put l0 (R0.overBy (.exit 0))).cell? ⟨b2, 0, none⟩) = (some (.slice a8 n11 c8))) ∧ K (.tuple #[.slice a7 n10 c7, .slice a8 n11 c8]) (h4.put l0 (R0.overBy (.exit 0)))))))))) ∨ False))
def law22_told.k5 (g0 : Nat) (h0 : Hp) (b1 : Nat) (b0 : Nat) (b2 : Nat) (first0 : Array Value) (cap0 : Array Value) (K : Value → Hp → Prop) : Prop :=
 trueD (callable P g0) ((∀ l0 : Nat, (∀ R0 : Rec, ((h0 l0) = none → ((∀ n1 : Int, (∀ cs0 : Array Value, (∀ h1 : Hp, (∀ K0 : Value → Hp → Prop, ((h1 l0) = (some R0.ready) → ((∀ b3 : Nat, ((h1 b3) = none → (cs0.size = 20) ∧ (∀ v1 : Value, (v1 ∈ (Array.toList cs0 : List Value) → (Den.cellish v1) = Bool.true)) ∧ (Free (h1.put b3 (.cells #[.int .i64 0, .int .u8 0, .int .u8 0, .int .u8 0, .int .u8 0, .int .u8 0, .int .u8 0, .int .u8 0, .int .u8 0, .int .u8 0, .int .u8 0, .int .u8 0, .int .u8 0, .int .u8 0, .int .u8 0, .int .u8 0, .int .u8 0, .string (⟨#[]⟩ : ByteArray), .int .u64 0, .slice none 0 0] T.api_Moniker (0, 0))) ⟨b3, 0, none⟩ 20) ∧ ((((h1.put b3 (.cells #[.int .i64 0, .int .u8 0, .int .u8 0, .int .u8 0, .int .u8 0, .int .u8 0, .int .u8 0, .int .u8 0, .int .u8 0, .int .u8 0, .int .u8 0, .int .u8 0, .int .u8 0, .int .u8 0, .int .u8 0, .int .u8 0, .int .u8 0, .string (⟨#[]⟩ : ByteArray), .int .u64 0, .slice none 0 0] T.api_Moniker (0, 0))).setCells ⟨b3, 0, none⟩ cs0) l0) = (some R0.ready)) ∧ (∃ a0 : Option Addr, (∃ n2 : Nat, (∃ c0 : Nat, (((((h1.put b3 (.cells #[.int .i64 0, .int .u8 0, .int .u8 0, .int .u8 0, .int .u8 0, .int .u8 0, .int .u8 0, .int .u8 0, .int .u8 0, .int .u8 0, .int .u8 0, .int .u8 0, .int .u8 0, .int .u8 0, .int .u8 0, .int .u8 0, .int .u8 0, .string (⟨#[]⟩ : ByteArray), .int .u64 0, .slice none 0 0] T.api_Moniker (0, 0))).setCells ⟨b3, 0, none⟩ cs0).put l0 R0.busy).cell? ⟨b1, 0, none⟩) = (some (.slice a0 n2 c0))) ∧ (∃ n3 : Int, (((((h1.put b3 (.cells #[.int .i64 0, .int .u8 0, .int .u8 0, .int .u8 0, .int .u8 0, .int .u8 0, .int .u8 0, .int .u8 0, .int .u8 0, .int .u8 0, .int .u8 0, .int .u8 0, .int .u8 0, .int .u8 0, .int .u8 0, .int .u8 0, .int .u8 0, .string (⟨#[]⟩ : ByteArray), .int .u64 0, .slice none 0 0] T.api_Moniker (0, 0))).setCells ⟨b3, 0, none⟩ cs0).put l0 R0.busy).cell? ⟨b0, 0, none⟩) = (some (.int .i64 n3))) ∧ bcase (decide (n3 ≤ (n2 : Int)))
 ((law22_told.k0 h1 b3 cs0 l0 R0 K0))
 ((law22_told.k3 h1 b3 cs0 l0 R0 b1 b2 K0 n1)))))))) → HY P l0 #[.int .u64 n1, .agg cs0] h1 (K0))))))) → HC P g0 (Array.mk (Array.toList first0 ++ ((.func (.yield l0) #[] #[]) :: (Array.toList cap0)))) (h0.put l0 R0.ready) (fun x0 h4 => (law22_told.k4 h4 l0 R0 b1 b2 K)))))))
def law22_told (p0 : Option Addr) (n0 : Int) (K : Value → Hp → Prop) (h : Hp) : Prop :=
 (∀ b0 : Nat, ((h b0) = none → (∀ b1 : Nat, (((h.put b0 (.cells #[.int .i64 n0] T.int (0, 0))) b1) = none → (∀ b2 : Nat, ((((h.put b0 (.cells #[.int .i64 n0] T.int (0, 0))).put b1 (.cells #[.slice none 0 0] T.sl_uint64 (0, 0))) b2) = none → HC P rot_Table_All.n #[.pointer p0] (((h.put b0 (.cells #[.int .i64 n0] T.int (0, 0))).put b1 (.cells #[.slice none 0 0] T.sl_uint64 (0, 0))).put b2 (.cells #[.slice none 0 0] T.sl_api_Moniker (0, 0))) (fun v0 h0 => (∃ g0 : Nat, (∃ first0 : Array Value, (∃ cap0 : Array Value, (v0 = (.func (.func g0) first0 cap0)) ∧ (law22_told.k5 g0 h0 b1 b0 b2 first0 cap0 K)))))))))))
theorem law22_told.hc {p0 : Option Addr} {n0 : Int} {K : Value → Hp → Prop} {h : Hp} (hh : law22_told p0 n0 K h) : HC P law22_told.n #[.pointer p0, .int .i64 n0] h K :=
  HC_of_den (fn := Go.Proofs.Tryz.f9) (args := [.pointer p0, .int .i64 n0]) Go.Proofs.Tryz.func9 rfl (Nat.le_of_ble_eq_true (by kernel_rfl)) (den_cast hh (by kernel_rfl))

def law22_RotNil.k0 (n8 : Nat) (h5 : Hp) (K : Value → Hp → Prop) : Prop :=
 bcase (((n8 : Int) == 0))
 (HC P law22_awake.n #[] h5 (fun v6 h6 => (∃ b3 : Bool, (v6 = (.bool b3)) ∧ K (.bool b3) h6)))
 (K (.bool Bool.false) h5)
def law22_RotNil.k1 (n11 : Nat) (n8 : Nat) (h5 : Hp) (K : Value → Hp → Prop) : Prop :=
 bcase (((n11 : Int) == 0))
 ((law22_RotNil.k0 n8 h5 K))
 (K (.bool Bool.false) h5)
def law22_RotNil.k2 (n1 : Int) (h4 : Hp) (n8 : Nat) (K : Value → Hp → Prop) : Prop :=
 HC P rot_Table_Leave.n #[.pointer none, .int .i64 n1] h4 (fun v5 h5 => (∃ a2 : Option Addr, (∃ n11 : Nat, (∃ c2 : Nat, (v5 = (.slice a2 n11 c2)) ∧ (law22_RotNil.k1 n11 n8 h5 K)))))
def law22_RotNil.k3 (n10 : Int) (n1 : Int) (h4 : Hp) (n8 : Nat) (K : Value → Hp → Prop) : Prop :=
 bcase ((n10 == 0))
 ((law22_RotNil.k2 n1 h4 n8 K))
 (K (.bool Bool.false) h4)
def law22_RotNil.k4 (n0 : Int) (h3 : Hp) (n1 : Int) (n8 : Nat) (K : Value → Hp → Prop) : Prop :=
 HC P rot_Table_Die.n #[.pointer none, .int .u64 n0] h3 (fun v4 h4 => (∃ n10 : Int, (v4 = (.int .i64 n10)) ∧ (law22_RotNil.k3 n10 n1 h4 n8 K)))
def law22_RotNil.k5 (n7 : Int) (n0 : Int) (h3 : Hp) (n1 : Int) (n8 : Nat) (K : Value → Hp → Prop) : Prop :=
 bcase ((n7 == 2))
 ((law22_RotNil.k4 n0 h3 n1 n8 K))
 (K (.bool Bool.false) h3)
def law22_RotNil.k6 (n5 : Int) (n7 : Int) (n0 : Int) (h3 : Hp) (n1 : Int) (n8 : Nat) (K : Value → Hp → Prop) : Prop :=
 bcase ((n5 == 12))
 ((law22_RotNil.k5 n7 n0 h3 n1 n8 K))
 (K (.bool Bool.false) h3)
def law22_RotNil.k7 (n3 : Int) (n5 : Int) (n7 : Int) (n0 : Int) (h3 : Hp) (n1 : Int) (n8 : Nat) (K : Value → Hp → Prop) : Prop :=
 bcase ((n3 == 3))
 ((law22_RotNil.k6 n5 n7 n0 h3 n1 n8 K))
 (K (.bool Bool.false) h3)
def law22_RotNil.k8 (n2 : Int) (n3 : Int) (n5 : Int) (n7 : Int) (n0 : Int) (h3 : Hp) (n1 : Int) (n8 : Nat) (K : Value → Hp → Prop) : Prop :=
 bcase ((n2 == 0))
 ((law22_RotNil.k7 n3 n5 n7 n0 h3 n1 n8 K))
 (K (.bool Bool.false) h3)
def law22_RotNil.k9 (h2 : Hp) (n2 : Int) (n3 : Int) (n5 : Int) (n7 : Int) (n0 : Int) (n1 : Int) (K : Value → Hp → Prop) : Prop :=
 HC P law22_told.n #[.pointer none, .int .i64 9] h2 (fun v3 h3 => (∃ a0 : Option Addr, (∃ n8 : Nat, (∃ c0 : Nat, (∃ a1 : Option Addr, (∃ n9 : Nat, (∃ c1 : Nat, (v3 = (.tuple #[.slice a0 n8 c0, .slice a1 n9 c1])) ∧ (law22_RotNil.k8 n2 n3 n5 n7 n0 h3 n1 n8 K))))))))
def law22_RotNil.k10 (n0 : Int) (h1 : Hp) (n2 : Int) (n3 : Int) (n5 : Int) (n1 : Int) (K : Value → Hp → Prop) : Prop :=
 HC P rot_Table_Drop.n #[.pointer none, .int .u64 n0] h1 (fun v2 h2 => (∃ n6 : Int, (∃ b2 : Bool, (∃ n7 : Int, (v2 = (.tuple #[.int .u64 n6, .bool b2, .int .i64 n7])) ∧ (law22_RotNil.k9 h2 n2 n3 n5 n7 n0 n1 K)))))
def law22_RotNil.k11 (h0 : Hp) (b0 : Nat) (cs2 : Array Value) (n0 : Int) (n2 : Int) (n3 : Int) (n1 : Int) (K : Value → Hp → Prop) : Prop :=
 (CellsAt h0 ⟨b0, 0, none⟩ 20 cs2) ∧ HC P rot_Table_Find.n #[.pointer none, .agg cs2] h0 (fun v1 h1 => (∃ n4 : Int, (∃ b1 : Bool, (∃ n5 : Int, (v1 = (.tuple #[.int .u64 n4, .bool b1, .int .i64 n5])) ∧ (law22_RotNil.k10 n0 h1 n2 n3 n5 n1 K)))))
def law22_RotNil (cs0 : Array Value) (n0 : Int) (n1 : Int) (K : Value → Hp → Prop) (h : Hp) : Prop :=
 (∀ b0 : Nat, ((h b0) = none → (∃ cs1 : Array Value, (CellsAt (h.put b0 (.cells cs0 T.api_Moniker (0, 0))) ⟨b0, 0, none⟩ 20 cs1) ∧ HC P rot_Table_Put.n #[.pointer none, .int .i64 n1, .agg cs1, .int .u64 n0, .bool Bool.true] (h.put b0 (.cells cs0 T.api_Moniker (0, 0))) (fun v0 h0 => (∃ n2 : Int, (∃ n3 : Int, (v0 = (.tuple #[.int .u64 n2, .int .i64 n3])) ∧ (∃ cs2 : Array Value, (law22_RotNil.k11 h0 b0 cs2 n0 n2 n3 n1 K))))))))
theorem law22_RotNil.hc {cs0 : Array Value} {n0 : Int} {n1 : Int} {K : Value → Hp → Prop} {h : Hp} (hh : law22_RotNil cs0 n0 n1 K h) : HC P law22_RotNil.n #[.agg cs0, .int .u64 n0, .int .i64 n1] h K :=
  HC_of_den (fn := Go.Proofs.Tryz.f4) (args := [.agg cs0, .int .u64 n0, .int .i64 n1]) Go.Proofs.Tryz.func4 rfl (Nat.le_of_ble_eq_true (by kernel_rfl)) (den_cast hh (by kernel_rfl))

end
end Go.Den.Mon
end

section
set_option linter.unusedVariables false
set_option maxRecDepth 100000
namespace Go.Den.Rot
open Go Go.Den Go.Den.Mon
variable {h h' : Hp} {c c' : Col} {K : Value → Hp → Prop}
theorem call_TAll_1 : callable P rot_Table_All_1.n = true := by kernel_rfl
theorem told_nil {n : Int} (hk : ∀ h', Step [] h [] h' → K (.tuple #[.slice none 0 0, .slice none 0 0]) h') : HC P law22_told.n #[.pointer none, .int .i64 n] h K := by
  refine law22_told.hc ?_
  unfold law22_told
  intro b0 hb0 b1 hb1 b2 hb2
  obtain ⟨n10, hb1⟩ := put_none hb1
  obtain ⟨n21, hb2⟩ := put_none hb2
  obtain ⟨n20, hb2⟩ := put_none hb2
  obtain ⟨H0, hH0⟩ : ∃ H0, H0 = ((h.put b0 (.cells #[.int .i64 n] T.int (0, 0))).put b1 (.cells #[.slice none 0 0] T.sl_uint64 (0, 0))).put b2 (.cells #[.slice none 0 0] T.sl_api_Moniker (0, 0)) := ⟨_, rfl⟩
  have e1 : H0 b1 = some (.cells #[.slice none 0 0] T.sl_uint64 (0, 0)) := by rw [hH0, put_ne (Ne.symm n21), put_self]
  have e2 : H0 b2 = some (.cells #[.slice none 0 0] T.sl_api_Moniker (0, 0)) := by rw [hH0, put_self]
  have st0 : Step [] h [] H0 := by rw [hH0]; exact ((Step.put (.inr hb0)).trans (Step.put (.inr (by rw [put_ne n10]; exact hb1)))).trans (Step.put (.inr (by rw [put_ne n21, put_ne n20]; exact hb2)))
  rw [← hH0]
  refine rot_Table_All.hc fun fb hfb => ⟨_, _, _, rfl, ?_⟩
  unfold law22_told.k5
  refine trueD_intro call_TAll_1 fun lb R hl hbody => ?_
  obtain ⟨nlf, hl0⟩ := put_none hl
  obtain ⟨H1, hH1⟩ : ∃ H1, H1 = (H0.put fb (.cells #[.pointer none] T.ptr_rot_Table (0, 0))).put lb R.ready := ⟨_, rfl⟩
  have st1 : Step [] H0 [] H1 := by rw [hH1]; exact (Step.put (.inr hfb)).trans (Step.put (.inr hl))
  show HC P rot_Table_All_1.n #[.func (.yield lb) #[] #[], .pointer (some ⟨fb, 0, none⟩)] _ _
  rw [← hH1]
  have g1 : H1 lb = some R.ready := by rw [hH1, put_self]
  have g2 : H1 fb = some (.cells #[.pointer none] T.ptr_rot_Table (0, 0)) := by rw [hH1, put_ne (Ne.symm nlf), put_self]
  refine rot_Table_All_1.hc fun b3 hb3 => ?_
  simp only [someD_some]
  have st2 : Step [] H1 [] (H1.put b3 (.cells #[.func (.yield lb) #[] #[]] T.func_uint64_api_Moniker_bool (0, 0))) := Step.put (.inr hb3)
  have g3 := st2.keepB0 g1
  have n1 : b1 ≠ lb := fun e => by rw [e, hl0] at e1; cases e1
  have n2 : b2 ≠ lb := fun e => by rw [e, hl0] at e2; cases e2
  have hlz : h lb = none := Classical.byContradiction fun hne => st0.dom lb hne hl0
  refine ⟨none, by rw [cell_of (st2.keepB0 g2)]; rfl, bcT rfl ?_⟩
  unfold rot_Table_All_1.k0 law22_told.k4
  refine .inl ⟨g3, none, 0, 0, ?_, none, 0, 0, ?_, hk _ (step_put0 hlz ((st0.trans st1).trans st2))⟩
  · rw [cell_of (show _ = some (Obj.cells #[.slice none 0 0] T.sl_uint64 (0, 0)) by rw [put_ne n1]; exact st2.keepB0 (st1.keepB0 e1))]; rfl
  · rw [cell_of (show _ = some (Obj.cells #[.slice none 0 0] T.sl_api_Moniker (0, 0)) by rw [put_ne n2]; exact st2.keepB0 (st1.keepB0 e2))]; rfl
theorem RotNil_holds (en : Mon.Env h) {x : Raw} {rows : List Raw} {m : Mon.Mon} (t : Top h x rows m) {tg : Nat} (htg : tg < 18446744073709551616) {ow : Int} : HC P law22_RotNil.n #[.agg (mc x).toArray, .int .u64 (tg : Int), .int .i64 ow] h (Mon.Holds h) := by
  have kx := t.deep.ok
  refine law22_RotNil.hc ?_
  unfold law22_RotNil
  intro b0 hb0
  have S0 : Step [] h [] (h.put b0 (.cells (mc x).toArray T.api_Moniker (0, 0))) := Step.put (.inr hb0)
  have M0 : MB (h.put b0 (.cells (mc x).toArray T.api_Moniker (0, 0))) b0 x := put_self
  refine ⟨_, M0.all kx, tPut_nil fun h1 s1 => ⟨_, _, rfl, _, (M0.step s1).all kx, tFind_nil fun h2 s2 => ⟨_, _, _, rfl, ?_⟩⟩⟩
  unfold law22_RotNil.k10
  refine tDrop_nil ⟨_, _, _, rfl, ?_⟩
  unfold law22_RotNil.k9
  refine told_nil fun h3 s3 => ⟨_, _, _, _, _, _, rfl, ?_⟩
  unfold law22_RotNil.k8
  refine bcT rfl ?_
  unfold law22_RotNil.k7
  refine bcT rfl ?_
  unfold law22_RotNil.k6
  refine bcT rfl ?_
  unfold law22_RotNil.k5
  refine bcT rfl ?_
  unfold law22_RotNil.k4
  refine Die_nil fun h4 s4 => ⟨_, rfl, ?_⟩
  unfold law22_RotNil.k3
  refine bcT rfl ?_
  unfold law22_RotNil.k2
  refine Leave_nil fun h5 s5 => ⟨_, _, _, rfl, ?_⟩
  unfold law22_RotNil.k1
  refine bcT rfl ?_
  unfold law22_RotNil.k0
  refine bcT rfl ?_
  have st := ((((S0.trans s1).trans s2).trans s3).trans s4).trans s5
  exact awake_spec (en.step st) fun h6 s6 => ⟨true, rfl, rfl, st.trans s6⟩
end Go.Den.Rot
end

section
set_option linter.unusedVariables false
set_option maxRecDepth 100000
namespace Go.Den.Mon
open Go Go.Den
variable {h : Hp} {K : Value → Hp → Prop}
end Go.Den.Mon
namespace Go.Den.Rot
open Go Go.Den Go.Den.Mon
variable {h h' : Hp} {c c' : Col} {K : Value → Hp → Prop} {S most : Nat} {sp : List Sp} {fr : List Nat}
def cleanL (L : List Raw) : Prop := ∀ r ∈ L, r.Ok ∧ rpart r = true ∧ r.sa = none ∧ r.sc = 0
end Go.Den.Rot
end

section
set_option linter.unusedVariables false
set_option maxRecDepth 100000
namespace Go.Den.Rot
open Go Go.Den Go.Den.Mon
variable {h h' : Hp} {c c' : Col} {K : Value → Hp → Prop} {S most : Nat} {sp : List Sp} {fr : List Nat}
noncomputable def only (S : Rg → Prop) (c : Col) : Col := fun k => @ite _ (S (c k)) (Classical.propDecidable _) (c k) z0
theorem WF.only {S : Rg → Prop} {h : Hp} {c : Col} (w : WF h c) : WF h (only S c) := fun k hk => w k fun e => hk (by
  unfold Rot.only
  split
  · exact e
  · rfl)
def hT (ps : List (Nat × Sp)) : List Nat := ps.map fun p => hd p.1 p.2.g
/-- The monikers that are told. -/
def Ys (h : Hp) (c : Col) (ys : List Raw) (ps : List (Nat × Sp)) : Prop := ∀ (n : Nat) (y : Raw) (p : Nat × Sp), ys[n]? = some y → ps[n]? = some p → ∃ L a cp, cleanL L ∧ L.length ≤ 64 ∧ txtOf L = p.2.x.txt ∧ y = ofRaw a cp L ∧ Sl h c (7, 8) T.api_Moniker 20 a L.length cp (mcs L)
theorem Ys.keep {ys : List Raw} {ps : List (Nat × Sp)} (y : Ys h c ys ps) (s : Same (fun r => r = (7, 8)) h c h' c') : Ys h' c' ys ps := fun n x p h1 h2 => by
  obtain ⟨L, a, cp, e1, e2, e3, e4, e5⟩ := y n x p h1 h2
  exact ⟨L, a, cp, e1, e2, e3, e4, e5.keep s⟩
end Go.Den.Rot
end

