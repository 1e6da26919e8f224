import Derived.Test.YtigpmmikmepcbaaDoorB25
import Derived.Shelf.Strings.Repeat
import Derived.Test.YtigpmmikmepcbaaDoorProg
import Derived.KernelRfl
import Derived.Laws.Bits64b
/- Texts that the claim needs, joined. -/
section
set_option linter.unusedVariables false
set_option maxRecDepth 100000
namespace Go.Den.Mon
open Go Go.Den
variable {h : Hp} {K : Value → Hp → Prop}
theorem slMon : SliceTy P T.sl_api_Moniker T.api_Moniker 20 := sliceTy_of (by kernel_rfl)
/-- One part more. -/
def red1 (out : List Raw) (x : Raw) : List Raw :=
  match out.getLast? with
  | some y => if x.kind = 4 ∧ y.kind ≠ 4 then out.dropLast else out ++ [x]
  | none => out ++ [x]
def red (out l : List Raw) : List Raw := l.foldl red1 out
/-- What came out so far: its slice lies in b0. -/
structure Out (hh : Hp) (b0 : Nat) (out : List Raw) (o : List Nat) : Prop where
  row : ∃ a c, hh b0 = some (.cells #[.slice a out.length c] T.sl_api_Moniker (0, 0)) ∧ SlAt hh T.api_Moniker 20 AnyV a out.length c (mcs out) o
  off : b0 ∉ o
  ok : ∀ r ∈ out, r.Ok
theorem Out.keep {hh h' : Hp} {b0 : Nat} {out : List Raw} {o : List Nat} (w : Out hh b0 out o) (hk : ∀ k, k = b0 ∨ k ∈ o → h' k = hh k) : Out h' b0 out o := by
  obtain ⟨⟨a, c, e, s⟩, f, k⟩ := w
  exact ⟨⟨a, c, by rw [hk b0 (.inl rfl)]; exact e, s.keep fun q hq => hk q (.inr hq)⟩, f, k⟩
theorem mcs_snoc {l : List Raw} {x : Raw} : mcs (l ++ [x]) = mcs l ++ mc x := by simp [mcs]
/-- The last but one stays. -/
theorem Out.pop {hh : Hp} {b0 : Nat} {out : List Raw} {y : Raw} {o : List Nat} {a : Option Addr} {c : Nat} (w : Out hh b0 (out ++ [y]) o) (e : hh b0 = some (.cells #[.slice a (out.length + 1) c] T.sl_api_Moniker (0, 0))) :
    Out (hh.setCell ⟨b0, 0, none⟩ (.slice (offA a c 0 20) out.length c)) b0 out o := by
  obtain ⟨⟨a', c', e', s⟩, f, k⟩ := w
  rw [List.length_append, List.length_cons, List.length_nil] at e' s
  have q : a' = a ∧ c' = c := by rw [e] at e'; cases e'; exact ⟨rfl, rfl⟩
  obtain ⟨rfl, rfl⟩ := q
  refine ⟨⟨_, _, by rw [setCell_blk e]; rfl, ?_⟩, f, fun r hr => k r (by simp [hr])⟩
  have ky := k y (by simp)
  generalize hv : mcs (out ++ [y]) = vs at s
  generalize hn : out.length + 0 + 1 = n at s
  have s' := s
  cases s' with
  | none => omega
  | @some b off len cap pre vs rest post hb hp h1 h2 h3 h4 =>
    have eo : offA (some ⟨b, off, none⟩) c' 0 20 = some ⟨b, off, none⟩ := by
      unfold offA
      split <;> simp
    rw [eo]
    have hne : b ≠ b0 := fun q => f (by simp [q])
    have lo : (mcs out).length = out.length * 20 := mcs_len fun r hr => k r (by simp [hr])
    refine .some (pre := pre) (vs := mcs out) (rest := mc y ++ rest) (post := post) ?_ hp lo ?_ (by omega) (fun _ _ => trivial)
    · rw [setCell_ne hne, hb, ← hv, mcs_snoc]; simp [List.append_assoc]
    · rw [List.length_append, mc_len ky, h2, show c' - out.length = (c' - n) + 1 by omega, Nat.add_mul]; omega
end Go.Den.Mon
end

section
set_option linter.unusedVariables false
set_option maxRecDepth 100000
namespace Go.Den.Mon
open Go Go.Den
variable {h : Hp} {K : Value → Hp → Prop}
/-- The last thing of a row is written anew. -/
theorem setLast {hh : Hp} {a : Option Addr} {len cap n : Nat} {vs y x : List Value} {o : List Nat} (s : SlAt hh T.api_Moniker 20 AnyV a len cap (vs ++ y) o) (hy : y.length = 20) (hx : x.length = 20) (hv : vs.length = n * 20) :
    ∃ b off ob, a = some ⟨b, off, none⟩ ∧ o = [b] ∧ Free hh ⟨b, off + n * 20, none⟩ 20 ∧ hh b ≠ none ∧ (∀ h2 : Hp, h2 b = hh b → h2.setCells ⟨b, off + n * 20, none⟩ x.toArray = h2.put b ob ∧ SlAt (h2.put b ob) T.api_Moniker 20 AnyV a len cap (vs ++ x) o ∧ Free h2 ⟨b, off + n * 20, none⟩ 20) := by
  generalize hw : vs ++ y = ws at s
  cases s with
  | none =>
    have : (vs ++ y).length = 0 := by rw [hw]; rfl
    rw [List.length_append] at this
    omega
  | @some b off _ _ pre _ rest post hb hp h1 h2' h3 h4 =>
    subst hw
    have fr : ∀ h2 : Hp, h2 b = hh b → Free h2 ⟨b, off + n * 20, none⟩ 20 := fun h2 e j hj => by
      have hb2 : h2 b = some (.cells (pre ++ (vs ++ y ++ (rest ++ post))).toArray T.api_Moniker (0, 0)) := by rw [e]; exact hb
      rw [Addr.add_mk]
      refine ⟨?_, frozen_of hb2⟩
      rw [cell_of hb2]
      exact ⟨_, Array.getElem?_eq_getElem (by simp; omega)⟩
    refine ⟨b, off, .cells (pre ++ (vs ++ x ++ (rest ++ post))).toArray T.api_Moniker (0, 0), rfl, rfl, fr hh rfl, by rw [hb]; simp, fun h2 e => ⟨?_, ?_, fr h2 e⟩⟩
    · have hb2 : h2 b = some (.cells ((pre ++ vs) ++ (y ++ (rest ++ post))).toArray T.api_Moniker (0, 0)) := by rw [e, hb]; simp [List.append_assoc]
      unfold Hp.setCells
      rw [List.toList_toArray, setCellsFrom_split (b := b) (off := off + n * 20) x y (pre ++ vs) (rest ++ post) 0 h2 hb2 (by rw [List.length_append, hp, hv]; omega) (by rw [hx, hy])]
      simp [List.append_assoc]
    · refine .some (pre := pre) (rest := rest) (post := post) (by rw [put_self]) hp ?_ ?_ h3 fun _ _ => trivial
      · rw [List.length_append] at h1 ⊢; omega
      · exact h2'
end Go.Den.Mon
end

section
set_option linter.unusedVariables false
set_option maxRecDepth 100000
namespace Go.Den.Mon
open Go Go.Den
variable {h : Hp} {K : Value → Hp → Prop}
theorem redPush {h2 : Hp} {b0 b2 l0 : Nat} {x : Raw} {out : List Raw} {o : List Nat} {R0 : Rec} {K0 : Value → Hp → Prop} (k : x.Ok) (w : Out h2 b0 out o) (hl : h2 l0 = some R0.ready) (nl0 : l0 ∉ o) (nlb : l0 ≠ b0) (hb2 : h2 b2 = none) (hn : out.length < 1000000)
    (hk : ∀ o' h', Out h' b0 (out ++ [x]) o' → h' l0 = some R0.ready → l0 ∉ o' → Step (o ++ [b0, l0]) h2 (o' ++ [b0, l0]) h' → K0 (.bool true) h') : moniker_reduce.k2 h2 b2 (mc x).toArray l0 R0 b0 K0 := by
  obtain ⟨⟨a, c, e, s⟩, f, ko⟩ := w
  have n20 : b2 ≠ l0 := fun q => by rw [q, hl] at hb2; cases hb2
  have n2b : b2 ≠ b0 := fun q => by rw [q, e] at hb2; cases hb2
  have n2o : ∀ q ∈ o, q ≠ b2 := fun q hq z => s.mem q hq (by rw [z]; exact hb2)
  obtain ⟨X, hX⟩ : ∃ X, X = (h2.put b2 (.cells (mc x).toArray T.api_Moniker (0, 0))).put l0 R0.busy := ⟨_, rfl⟩
  have e2 := newM k hb2
  have Xl : X l0 = some R0.busy := by rw [hX, put_self]
  have Xb : X b0 = some (.cells #[.slice a out.length c] T.sl_api_Moniker (0, 0)) := by rw [hX, put_ne (Ne.symm nlb), put_ne (Ne.symm n2b)]; exact e
  have X2 : MB X b2 x := by rw [hX]; show _ = _; rw [put_ne n20, put_self]
  have Xs : SlAt X T.api_Moniker 20 AnyV a out.length c (mcs out) o := s.keep fun q hq => by rw [hX, put_ne fun z => nl0 (by rw [← z]; exact hq), put_ne (n2o q hq)]
  have SX : Step (o ++ [b0, l0]) h2 (o ++ [b0, l0]) X := by rw [hX]; exact (Step.put (.inr hb2)).trans (Step.put (.inl (by simp)))
  unfold moniker_reduce.k2
  rw [e2, ← hX]
  refine ⟨a, out.length, c, by rw [cell_of Xb]; rfl, _, X2.all k, ⟨rfl, by simp [cellish], trivial⟩, fun b3 hb3 => ?_⟩
  have n3o : ∀ q ∈ o, q ≠ b3 := fun q hq z => Xs.mem q hq (by rw [z]; exact hb3)
  have eC : (Array.mk (catA zMon [])) = (mc nl).toArray := rfl
  rw [eC]
  refine append_wp (P := P) (Z := AnyV) (cs := mc nl) (n := 1) slMon slMon.1 (Xs.keep fun q hq => put_ne (n3o q hq)) (fun _ _ _ _ _ _ => trivial) (.some ⟨by simpa using mc_len nl_ok, fun j v hv => by rw [Addr.add_mk, cell_of put_self, Nat.zero_add]; exact hv⟩) (fun v hv => mc_cellish v (by simpa using hv)) (by omega) fun a5 c5 o5 h3 s5 _ S5 => ⟨_, _, _, rfl, ?_⟩
  have S3 : Step o X o5 h3 := (Step.put (.inr hb3)).trans S5
  have dl : ∀ q, X q ≠ none → q ∉ o → q ∉ o5 := fun q hq hno hm => by
    rcases S3.own q hm with z | z
    · exact hno z
    · exact hq z
  have f5 : b0 ∉ o5 := dl b0 (by rw [Xb]; simp) f
  have l5 : l0 ∉ o5 := dl l0 (by rw [Xl]; simp) nl0
  have Hb : h3 b0 = some (.cells #[.slice a out.length c] T.sl_api_Moniker (0, 0)) := S3.block Xb f
  have Hl : h3 l0 = some R0.busy := S3.block Xl nl0
  obtain ⟨b, off, ob, ea, eo, fr, hnn, hset⟩ := setLast (n := out.length) s5 (mc_len nl_ok) (mc_len k) (mcs_len ko)
  have nb0 : b ≠ b0 := fun z => f5 (by rw [eo, z]; simp)
  have nbl : b ≠ l0 := fun z => l5 (by rw [eo, z]; simp)
  have okx : ∀ r ∈ out ++ [x], r.Ok := fun r hr => by
    rcases List.mem_append.1 hr with z | z
    · exact ko r z
    · simp at z; rw [z]; exact k
  have hlen : (out ++ [x]).length = out.length + 1 := by simp
  have fin : ∀ h4 : Hp, h4 b0 = some (.cells #[.slice a5 (out.length + 1) c5] T.sl_api_Moniker (0, 0)) → SlAt h4 T.api_Moniker 20 AnyV a5 (out.length + 1) c5 (mcs out ++ mc x) o5 → Step (o5 ++ [b0, l0]) h3 (o5 ++ [b0, l0]) h4 → K0 (.bool true) (h4.put l0 R0.ready) := fun h4 q1 q2 q3 => by
    refine hk o5 _ ⟨⟨a5, c5, ?_, ?_⟩, f5, okx⟩ put_self l5 ?_
    · rw [put_ne (Ne.symm nlb), hlen]; exact q1
    · rw [hlen, mcs_snoc]
      exact q2.keep fun q hq => put_ne fun z => l5 (by rw [← z]; exact hq)
    · exact ((SX.trans (S3.frame [b0, l0])).trans q3).trans (Step.put (.inl (by simp)))
  unfold moniker_reduce.k1
  rw [ea, someD_some, Int.toNat_natCast, Addr.add_mk]
  refine ⟨by omega, by omega, ⟨by simpa using mc_len k, mc_cellish, fr, ?_⟩, ?_⟩
  · obtain ⟨g1, g2, -⟩ := hset h3 rfl
    rw [g1]
    have Gb : (h3.put b ob) b0 = some (.cells #[.slice a out.length c] T.sl_api_Moniker (0, 0)) := by rw [put_ne (Ne.symm nb0)]; exact Hb
    refine ⟨⟨_, by rw [cell_of Gb]; rfl⟩, frozen_of Gb, by rw [setCell_ne nlb, put_ne (Ne.symm nbl)]; exact Hl, ?_⟩
    rw [← ea]
    refine fin _ (by rw [setCell_blk Gb]; rfl) (g2.keep fun q hq => setCell_ne fun z => f5 (by rw [← z]; exact hq)) ?_
    exact (Step.put (.inl (by rw [eo]; simp))).trans (Step.setCell Gb (by simp))
  · have Gb := Hb
    obtain ⟨g1, g2, g3⟩ := hset (h3.setCell ⟨b0, 0, none⟩ (.slice (some ⟨b, off, none⟩) (out.length + 1) c5)) (setCell_ne nb0)
    rw [g1]
    refine ⟨⟨_, by rw [cell_of Gb]; rfl⟩, frozen_of Gb, by simpa using mc_len k, mc_cellish, g3, by rw [put_ne (Ne.symm nbl), setCell_ne nlb]; exact Hl, ?_⟩
    refine fin _ (by rw [put_ne (Ne.symm nb0), setCell_blk Gb, ea]; rfl) g2 ?_
    exact (Step.setCell Gb (by simp)).trans (Step.put (.inl (by rw [eo]; simp)))
end Go.Den.Mon
end

section
set_option linter.unusedVariables false
set_option maxRecDepth 100000
namespace Go.Den.Mon
open Go Go.Den
variable {h : Hp} {K : Value → Hp → Prop}
theorem redBody {h2 : Hp} {b0 l0 : Nat} {x : Raw} {out : List Raw} {o : List Nat} {R0 : Rec} {K0 : Value → Hp → Prop} (k : x.Ok) (w : Out h2 b0 out o) (hl : h2 l0 = some R0.ready) (nl0 : l0 ∉ o) (nlb : l0 ≠ b0) (hn : out.length < 1000000)
    (hk : ∀ o' h', Out h' b0 (red1 out x) o' → h' l0 = some R0.ready → l0 ∉ o' → Step (o ++ [b0, l0]) h2 (o' ++ [b0, l0]) h' → K0 (.bool true) h') :
    ∀ b2 : Nat, h2 b2 = none → ((mc x).toArray.size = 20) ∧ (∀ v2 : Value, (v2 ∈ (Array.toList (mc x).toArray : List Value) → (Den.cellish v2) = Bool.true)) ∧ (Free (h2.put b2 (.cells zMon T.api_Moniker (0, 0))) ⟨b2, 0, none⟩ 20) ∧ ((((h2.put b2 (.cells zMon T.api_Moniker (0, 0))).setCells ⟨b2, 0, none⟩ (mc x).toArray) l0) = (some R0.ready)) ∧
      (∃ a1 : Option Addr, (∃ n1 : Nat, (∃ c0 : Nat, (((((h2.put b2 (.cells zMon T.api_Moniker (0, 0))).setCells ⟨b2, 0, none⟩ (mc x).toArray).put l0 R0.busy).cell? ⟨b0, 0, none⟩) = (some (.slice a1 n1 c0))) ∧ (∃ n2 : Int, (((((h2.put b2 (.cells zMon T.api_Moniker (0, 0))).setCells ⟨b2, 0, none⟩ (mc x).toArray).put l0 R0.busy).cell? ((⟨b2, 0, none⟩ : Addr).add 0)) = (some (.int .i64 n2))) ∧ bcase ((n2 == 4))
        ((moniker_reduce.k4 n1 h2 b2 (mc x).toArray l0 R0 b0 K0))
        ((moniker_reduce.k2 h2 b2 (mc x).toArray l0 R0 b0 K0)))))) := by
  intro b2 hb2
  have n20 : b2 ≠ l0 := fun q => by rw [q, hl] at hb2; cases hb2
  obtain ⟨⟨a, c, e, s⟩, f, ko⟩ := id w
  have n2b : b2 ≠ b0 := fun q => by rw [q, e] at hb2; cases hb2
  have n2o : ∀ q ∈ o, q ≠ b2 := fun q hq z => s.mem q hq (by rw [z]; exact hb2)
  obtain ⟨X, hX⟩ : ∃ X, X = (h2.put b2 (.cells (mc x).toArray T.api_Moniker (0, 0))).put l0 R0.busy := ⟨_, rfl⟩
  have e2 := newM k hb2
  have Xl : X l0 = some R0.busy := by rw [hX, put_self]
  have Xb : X b0 = some (.cells #[.slice a out.length c] T.sl_api_Moniker (0, 0)) := by rw [hX, put_ne (Ne.symm nlb), put_ne (Ne.symm n2b)]; exact e
  have X2 : MB X b2 x := by rw [hX]; show _ = _; rw [put_ne n20, put_self]
  have keepX : ∀ q, q = b0 ∨ q ∈ o → X q = h2 q := fun q hq => by
    rcases hq with rfl | hq
    · rw [Xb, e]
    · rw [hX, put_ne fun z => nl0 (by rw [← z]; exact hq), put_ne (n2o q hq)]
  have Xw : Out X b0 out o := w.keep keepX
  have SX : Step (o ++ [b0, l0]) h2 (o ++ [b0, l0]) X := by rw [hX]; exact (Step.put (.inr hb2)).trans (Step.put (.inl (by simp)))
  have push : red1 out x = out ++ [x] → moniker_reduce.k2 h2 b2 (mc x).toArray l0 R0 b0 K0 := fun q => redPush k w hl nl0 nlb hb2 hn fun o' h' g1 => hk o' h' (by rw [q]; exact g1)
  rw [e2, ← hX]
  refine ⟨by simpa using mc_len k, mc_cellish, freeM, by rw [put_ne (Ne.symm n20)]; exact hl, a, out.length, c, by rw [cell_of Xb]; rfl, x.kind, by rw [Addr.add_mk]; exact X2.kind, bcase_intro (fun c4 => ?_) fun c4 => push ?_⟩
  · have c4 : x.kind = 4 := by simpa using c4
    unfold moniker_reduce.k4
    refine bcase_intro (fun hp => ?_) fun hp => push ?_
    · have hp : 0 < out.length := by have := of_decide_eq_true hp; omega
      obtain ⟨out', y, rfl⟩ : ∃ out' y, out = out' ++ [y] := ⟨out.dropLast, out.getLast (List.ne_nil_of_length_pos hp), (List.dropLast_concat_getLast _).symm⟩
      have hln : (out' ++ [y]).length = out'.length + 1 := by simp
      have ky := ko y (by simp)
      have hw : IntKind.wrap .i64 (((out' ++ [y]).length : Nat) - 1 : Int) = (out'.length : Nat) := wrapN (by rw [hln]; omega) (by rw [hln] at hn; omega)
      have Xs : SlAt X T.api_Moniker 20 AnyV a (out' ++ [y]).length c (mcs (out' ++ [y])) o := s.keep fun q hq => keepX q (.inr hq)
      obtain ⟨p, rfl, hpb, cp⟩ := srcM Xs.src ko rfl (i := out'.length) (x := y) (by simp)
      have cy := (cp X rfl).2 0 (.int .i64 y.kind) (by simp [mc])
      unfold moniker_reduce.k3
      rw [e2, ← hX, hw]
      refine ⟨_, _, _, by rw [cell_of Xb]; rfl, by omega, by rw [hln]; omega, ?_⟩
      rw [someD_some, Int.toNat_natCast]
      refine ⟨y.kind, cy, bcase_intro (fun d => ?_) fun d => push ?_⟩
      · have d : y.kind ≠ 4 := by simpa using d
        have hr : red1 (out' ++ [y]) x = out' := by unfold red1; simp [c4, d]
        unfold moniker_reduce.k0
        rw [e2, ← hX, hw]
        have lec := Xs.le_cap
        refine ⟨_, _, _, by rw [cell_of Xb]; rfl, by omega, by rw [hln] at lec; omega, ⟨_, by rw [cell_of Xb]; rfl⟩, frozen_of Xb, by rw [setCell_ne nlb]; exact Xl, ?_⟩
        rw [Int.toNat_natCast, Nat.sub_zero, Nat.sub_zero]
        have po := Xw.pop (by rw [← hln]; exact Xb)
        refine hk o _ ?_ put_self nl0 ?_
        · rw [hr]
          exact po.keep fun q hq => put_ne fun z => by
            rcases hq with hq | hq
            · exact nlb (by rw [← z]; exact hq)
            · exact nl0 (by rw [← z]; exact hq)
        · exact (SX.trans (Step.setCell Xb (by simp))).trans (Step.put (.inl (by simp)))
      · have d : y.kind = 4 := by simpa using d
        unfold red1; simp [d]
    · have hp : ¬ 0 < out.length := by have := of_decide_eq_false hp; omega
      have : out = [] := List.length_eq_zero_iff.1 (by omega)
      subst this
      rfl
  · have c4 : x.kind ≠ 4 := by simpa using c4
    unfold red1
    split <;> simp [c4]
end Go.Den.Mon
end

section
set_option linter.unusedVariables false
set_option maxRecDepth 100000
namespace Go.Den.Mon
open Go Go.Den
variable {h : Hp} {K : Value → Hp → Prop}
theorem Step.dropB {o o' r : List Nat} {l : Nat} {h h' : Hp} (s : Step (o ++ r ++ [l]) h (o' ++ r ++ [l]) h') (hl : h l = none) : Step (o ++ r) h (o' ++ r) h' :=
  ⟨fun k hk hn => s.keep k hk fun q => by
      rcases List.mem_append.1 q with q | q
      · exact hn q
      · simp at q; exact hk (by rw [q]; exact hl),
    fun k hk => by
      rcases s.own k (List.mem_append.2 (.inl hk)) with q | q
      · rcases List.mem_append.1 q with q | q
        · exact .inl q
        · simp at q; exact .inr (by rw [q]; exact hl)
      · exact .inr q, s.dom⟩
theorem red1_len {out : List Raw} {x : Raw} : (red1 out x).length ≤ out.length + 1 := by
  unfold red1
  split
  · split
    · simp; omega
    · simp
  · simp
theorem red_len {l : List Raw} : ∀ {out : List Raw}, (red out l).length ≤ out.length + l.length := by
  induction l with
  | nil => intro out; simp [red]
  | cons x l ih =>
    intro out
    have := ih (out := red1 out x)
    have q := red1_len (out := out) (x := x)
    show (red (red1 out x) l).length ≤ _
    simp; omega
theorem red_snoc {out l : List Raw} {x : Raw} : red out (l ++ [x]) = red1 (red out l) x := by simp [red]
theorem prt_ok {h : Hp} {x : Raw} {rows : List Raw} {m : Mon} (t : Top h x rows m) : ∀ r ∈ prt x rows, r.Ok := by
  intro r hr
  unfold prt partsOf at hr
  split at hr
  · split at hr
    · cases hr
    · split at hr
      · exact t.ok r hr
      · simp at hr; rw [hr]; exact t.deep.ok
  · cases hr
theorem redArg {h0 : Hp} {b0 n len : Nat} {a0 : Option Addr} {x : Raw} {rows : List Raw} {m : Mon} {out : List Raw} {o : List Nat} {I0 : List Value → Hp → Prop} {x0 : List Value → Hp → Nat}
    (t : Top h0 x rows m) (hi : n < len) (hlen : len < 1000000) (row : ∃ p, a0 = some p ∧ h0 p.block ≠ none ∧ ∀ h' : Hp, h' p.block = h0 p.block → CellsAt h' (p.add (n * 20)) 20 (mc x).toArray)
    (w : Out h0 b0 out o) (sa : ∀ p, x.sa = some p → x.sn ≠ 0 → p.block ∉ o ∧ p.block ≠ b0 ∧ h0 p.block ≠ none) (hn : out.length + (prt x rows).length < 1000000)
    (hk : ∀ o' h', Out h' b0 (red out (prt x rows)) o' → Step (o ++ [b0]) h0 (o' ++ [b0]) h' → I0 [.int .i64 ((n + 1 : Nat) : Int)] h')
    (hx : ∀ hh, x0 [.int .i64 ((n + 1 : Nat) : Int)] hh < x0 [.int .i64 (n : Int)] h0) : moniker_reduce.k7 (n : Int) len a0 h0 b0 I0 x0 := by
  have k := t.deep.ok
  obtain ⟨p, rfl, hp, cp⟩ := row
  unfold moniker_reduce.k7
  rw [someD_some, Int.toNat_natCast]
  refine ⟨by omega, by omega, _, cp h0 rfl, fun b1 hb1 => ?_⟩
  rw [newM k hb1]
  refine ⟨by simpa using mc_len k, mc_cellish, freeM, _, cellsAt_blk put_self (by simpa using mc_len k), ?_⟩
  refine moniker_Parts.hc ?_
  unfold moniker_Parts
  intro bF hbF
  refine ⟨_, _, _, rfl, ?_⟩
  unfold moniker_reduce.k6
  refine trueD_intro (by kernel_rfl) ?_
  intro l0 R0 hl0 hyall
  obtain ⟨H1, hH1⟩ : ∃ H1, H1 = (((h0.put b1 (.cells (mc x).toArray T.api_Moniker (0, 0))).put bF (.cells (mc x).toArray T.api_Moniker (0, 0))).put l0 R0.ready) := ⟨_, rfl⟩
  have nlF : l0 ≠ bF := fun q => by rw [q, put_self] at hl0; cases hl0
  have nl1 : l0 ≠ b1 := fun q => by rw [q, put_ne (fun z => by rw [← z, put_self] at hbF; cases hbF), put_self] at hl0; cases hl0
  have l00 : h0 l0 = none := by rw [put_ne nlF, put_ne nl1] at hl0; exact hl0
  have F1 : bF ≠ b1 := fun q => by rw [q, put_self] at hbF; cases hbF
  have F0 : h0 bF = none := by rw [put_ne F1] at hbF; exact hbF
  have S1 : ∀ q, Step q h0 q H1 := fun q => by
    rw [hH1]
    exact ((Step.put (.inr hb1)).trans (Step.put (.inr hbF))).trans (Step.put (.inr hl0))
  have HF : MB H1 bF x := by rw [hH1]; show _ = _; rw [put_ne (Ne.symm nlF), put_self]
  have Hl : H1 l0 = some R0.ready := by rw [hH1, put_self]
  obtain ⟨⟨a, c, e, s⟩, f, ko⟩ := id w
  have nl0 : l0 ∉ o := fun q => s.mem l0 q l00
  have nlb : l0 ≠ b0 := fun q => by rw [q, e] at l00; cases l00
  have nF0 : bF ∉ o := fun q => s.mem bF q F0
  have nFb : bF ≠ b0 := fun q => by rw [q, e] at F0; cases F0
  have w1 : Out H1 b0 out o := w.keep fun q hq => by
    have : h0 q ≠ none := by
      rcases hq with rfl | hq
      · rw [e]; simp
      · exact s.mem q hq
    exact (S1 []).keep q this (by simp)
  refine partsIt_spec (l0 := l0) (bF := bF) (h := (((h0.put b1 (.cells (mc x).toArray T.api_Moniker (0, 0))).put bF (.cells (mc x).toArray T.api_Moniker (0, 0))).put l0 R0.ready)) (m := m) (by rw [← hH1]; exact t.step (S1 [])) (by rw [← hH1]; exact HF)
    (fun i hh => ∃ o1, Out hh b0 (red out ((prt x rows).take i)) o1 ∧ hh l0 = some R0.ready ∧ l0 ∉ o1 ∧ Step (o ++ [b0, l0]) H1 (o1 ++ [b0, l0]) hh) (fun _ => False) ?_ ?_ ?_ ?_ ?_ (fun _ z => z.elim)
  · rw [← hH1]
    exact ⟨o, by simpa [red] using w1, Hl, nl0, Step.refl _ _⟩
  · rintro i hh hh' ⟨o1, g1, g2, g3, g4⟩ st
    refine ⟨o1, g1.keep fun q hq => ?_, by rw [st.keep l0 (by rw [g2]; simp) (by simp)]; exact g2, g3, g4.trans (by simpa using st.frame (o1 ++ [b0, l0]))⟩
    refine st.keep q ?_ (by simp)
    obtain ⟨a', c', e', s'⟩ := g1.row
    rcases hq with rfl | hq
    · rw [e']; simp
    · exact s'.mem q hq
  · rintro i hh ⟨o1, g1, g2, g3, g4⟩
    rw [← hH1]
    refine ⟨g4.keep bF (by rw [HF]; simp) (by simp [nF0, nFb, Ne.symm nlF]), fun q eq en hq => g4.keep _ hq ?_⟩
    obtain ⟨d1, d2, d3⟩ := sa q eq en
    have d4 : q.block ≠ l0 := fun z => d3 (by rw [z]; exact l00)
    simp [d1, d2, d4]
  · rintro i r hh C hr ⟨o1, g1, g2, g3, g4⟩ yes no
    have kr := prt_ok t r (List.mem_of_getElem? hr)
    have hil : i < (prt x rows).length := (List.getElem?_eq_some_iff.1 hr).1
    refine hyall (mc r).toArray hh C g2 ?_
    refine redBody kr g1 g2 g3 nlb (by have := red_len (out := out) (l := (prt x rows).take i); rw [List.length_take] at this; omega) fun o' h' q1 q2 q3 q4 => yes h' ⟨o', ?_, q2, q3, g4.trans q4⟩
    rw [List.take_add_one, hr]
    show Out h' b0 (red out (_ ++ [r])) o'
    rw [red_snoc]; exact q1
  · rintro hh ⟨o1, g1, g2, g3, g4⟩
    rw [List.take_length] at g1
    unfold moniker_reduce.k5
    refine .inl ⟨g2, ?_, ?_⟩
    · rw [wrapN (m := n + 1) (by simp) (by omega)]
      have gs : Step (o ++ [b0] ++ [l0]) h0 (o1 ++ [b0] ++ [l0]) (hh.put l0 R0.over) := by
        simpa using ((S1 (o ++ [b0, l0])).trans g4).trans (Step.put (.inl (by simp)))
      refine hk o1 _ (g1.keep fun q hq => put_ne fun z => ?_) (Step.dropB gs l00)
      rcases hq with hq | hq
      · exact nlb (by rw [← z, hq])
      · exact g3 (by rw [← z]; exact hq)
    · rw [wrapN (m := n + 1) (by simp) (by omega)]
      exact hx _
end Go.Den.Mon
end

section
set_option linter.unusedVariables false
set_option maxRecDepth 100000
namespace Go.Den.Mon
open Go Go.Den
variable {h : Hp} {K : Value → Hp → Prop}
def redAll (ts : List (Raw × List Raw)) : List Raw := ts.foldl (fun out t => red out (prt t.1 t.2)) []
theorem redAll_snoc {ts : List (Raw × List Raw)} {t : Raw × List Raw} : redAll (ts ++ [t]) = red (redAll ts) (prt t.1 t.2) := by simp [redAll]
theorem redAll_len {ts : List (Raw × List Raw)} (hb : ∀ t ∈ ts, (prt t.1 t.2).length ≤ 1000) : ∀ j, (redAll (ts.take j)).length ≤ 1000 * j := by
  intro j
  induction j with
  | zero => simp [redAll]
  | succ j ih =>
    rw [List.take_add_one]
    cases hj : ts[j]? with
    | none => simp; omega
    | some t =>
      show (redAll (_ ++ [t])).length ≤ _
      rw [redAll_snoc]
      have := red_len (out := redAll (ts.take j)) (l := prt t.1 t.2)
      have := hb t (List.mem_of_getElem? hj)
      omega
theorem reduce_spec {a : Option Addr} {n c : Nat} {ts : List (Raw × List Raw)} (hs : SrcAt h 20 (.slice a n c) n (mcs (ts.map Prod.fst))) (hl : ts.length = n) (hn : n ≤ 900)
    (top : ∀ t ∈ ts, ∃ m, Top h t.1 t.2 m) (hb : ∀ t ∈ ts, (prt t.1 t.2).length ≤ 1000)
    (hk : ∀ a' c' o h', SlAt h' T.api_Moniker 20 AnyV a' (redAll ts).length c' (mcs (redAll ts)) o → (∀ r ∈ redAll ts, r.Ok) → Step [] h o h' → K (.slice a' (redAll ts).length c') h') :
    HC P moniker_reduce.n #[.slice a n c] h K := by
  refine moniker_reduce.hc ?_
  unfold moniker_reduce
  intro b0 hb0
  refine ⟨fun vs hh => ∃ (j : Nat) (o : List Nat), vs = [.int .i64 (j : Int)] ∧ j ≤ n ∧ Out hh b0 (redAll (ts.take j)) o ∧ Step [] h (o ++ [b0]) hh,
    fun vs _ => match vs with | [.int _ i] => n - i.toNat | _ => 0, ⟨0, [], rfl, by omega, ⟨⟨none, 0, by rw [put_self]; rfl, .none⟩, by simp, by simp [redAll]⟩, by simpa using Step.new hb0⟩, ?_⟩
  rintro h0 n0 ⟨j, o, he, hj, w, st⟩
  have en : n0 = (j : Int) := by cases he; rfl
  clear he
  subst en
  refine bcase_intro (fun hc => ?_) fun hc => ?_
  · have hc : j < n := by have := of_decide_eq_true hc; omega
    obtain ⟨t, ht⟩ : ∃ t, ts[j]? = some t := ⟨_, List.getElem?_eq_getElem (by omega)⟩
    have mt := List.mem_of_getElem? ht
    obtain ⟨m, T0⟩ := top t mt
    have okx : ∀ r ∈ ts.map Prod.fst, r.Ok := fun r hr => by
      obtain ⟨t', h1, rfl⟩ := List.mem_map.1 hr
      obtain ⟨m', T'⟩ := top t' h1
      exact T'.deep.ok
    obtain ⟨p, ep, hp, cp⟩ := srcM hs okx (by simpa using hl) (i := j) (x := t.1) (by rw [List.getElem?_map, ht]; rfl)
    have fo : ∀ q, q ∈ o ++ [b0] → h q = none := fun q hq => by
      rcases st.own q hq with z | z
      · cases z
      · exact z
    have len := redAll_len hb j
    have ln1 := hb t mt
    refine redArg (T0.step st.forget0) hc (by omega) ⟨p, ep, st.dom _ hp, fun h' e => cp h' (by rw [e]; exact st.keep _ hp (by simp))⟩ w (fun q eq en => ?_) (by omega) (fun o' h' g1 g2 => ⟨j + 1, o', rfl, by omega, ?_, st.trans g2⟩) (fun hh => ?_)
    · have d := T0.blk q eq en
      exact ⟨fun z => d (fo _ (by simp [z])), fun z => d (fo _ (by simp [z])), st.dom _ d⟩
    · rw [List.take_add_one, ht]
      show Out h' b0 (redAll (_ ++ [t])) o'
      rw [redAll_snoc]; exact g1
    · show n - ((j + 1 : Nat) : Int).toNat < n - (j : Int).toNat
      omega
  · have hc : j = n := by have := of_decide_eq_false hc; omega
    have et : ts.take j = ts := List.take_of_length_le (by omega)
    rw [et] at w
    obtain ⟨⟨a', c', e, s⟩, f, ko⟩ := w
    unfold moniker_reduce.k8
    refine ⟨a', _, c', by rw [cell_of e]; rfl, hk a' c' o h0 s ko (st.weak (fun _ z => z) fun k hk => .inl (by simp [hk]))⟩
end Go.Den.Mon
end

section
set_option linter.unusedVariables false
namespace Go.Den.Mon
open Go Go.Den
/-- No kind 4 stands behind another kind. -/
def flat : List Raw → Prop
  | y :: x :: l => ¬ (x.kind = 4 ∧ y.kind ≠ 4) ∧ flat (x :: l)
  | _ => True
theorem red_append {out l r : List Raw} : red out (l ++ r) = red (red out l) r := by simp [red]
theorem red1_last {out : List Raw} {x y : Raw} (e : out.getLast? = some y) : red1 out x = if x.kind = 4 ∧ y.kind ≠ 4 then out.dropLast else out ++ [x] := by
  unfold red1; rw [e]
/-- A pair cut away changes nothing. -/
theorem red_cut {out l r : List Raw} {y x : Raw} (hx : x.kind = 4) (hy : y.kind ≠ 4) : red out (l ++ y :: x :: r) = red out (l ++ r) := by
  rw [red_append, red_append]
  generalize red out l = z
  show red (red1 (red1 z y) x) r = red z r
  have e1 : red1 z y = z ++ [y] := by
    unfold red1
    split
    · rw [if_neg fun q => hy q.1]
    · rfl
  rw [e1, red1_last (y := y) (by simp), if_pos ⟨hx, hy⟩]
  simp
theorem flat_red : ∀ {l out : List Raw}, flat l → (∀ y x, out.getLast? = some y → l.head? = some x → ¬ (x.kind = 4 ∧ y.kind ≠ 4)) → red out l = out ++ l := by
  intro l
  induction l with
  | nil => intro out _ _; simp [red]
  | cons x l ih =>
    intro out hf hh
    have e1 : red1 out x = out ++ [x] := by
      unfold red1
      split
      · rename_i y hy
        rw [if_neg (hh y x hy rfl)]
      · rfl
    show red (red1 out x) l = _
    rw [e1, ih ?_ ?_]
    · simp
    · cases l with
      | nil => trivial
      | cons z l => exact hf.2
    · intro y z hy hz
      simp at hy
      subst hy
      cases l with
      | nil => cases hz
      | cons w l => simp at hz; subst hz; exact hf.1
theorem flat_self {l : List Raw} (hf : flat l) : red [] l = l := by
  have := flat_red (out := []) hf (by simp)
  simpa using this
theorem flat_snoc : ∀ {l : List Raw} {x : Raw}, flat l → (∀ y, l.getLast? = some y → ¬ (x.kind = 4 ∧ y.kind ≠ 4)) → flat (l ++ [x])
  | [], x, _, _ => trivial
  | [y], x, _, hh => ⟨hh y rfl, trivial⟩
  | y :: z :: l, x, hf, hh => ⟨hf.1, flat_snoc (l := z :: l) hf.2 fun w hw => hh w (by simpa using hw)⟩
theorem flat_take {l : List Raw} {i : Nat} {x : Raw} (hf : flat (l.take i)) (hx : l[i]? = some x) (hy : ∀ y, i ≠ 0 → l[i - 1]? = some y → ¬ (x.kind = 4 ∧ y.kind ≠ 4)) : flat (l.take (i + 1)) := by
  rw [List.take_add_one, hx]
  refine flat_snoc hf fun y e => ?_
  have hi : i < l.length := (List.getElem?_eq_some_iff.1 hx).1
  have h0 : i ≠ 0 := fun q => by rw [q] at e; simp at e
  refine hy y h0 ?_
  rw [List.getLast?_eq_getElem?, List.length_take, Nat.min_eq_left (by omega), List.getElem?_take_of_lt (by omega)] at e
  exact e
end Go.Den.Mon
end

section
set_option linter.unusedVariables false
namespace Go.Den.Mon
open Go Go.Den
theorem src_take {h : Hp} {sz n c i c' : Nat} {p : Addr} {cs : List Value} (hs : SrcAt h sz (.slice (some p) n c) n cs) (hi : i ≤ n) : SrcAt h sz (.slice (offA (some p) c 0 sz) i c') i (cs.take (i * sz)) := by
  have eo : offA (some p) c 0 sz = some p := by
    unfold offA
    split
    · rfl
    · simp only [Option.map_some, Nat.zero_mul]; rfl
  rw [eo]
  cases hs with
  | some q =>
    have l := q.1
    have m : i * sz ≤ n * sz := Nat.mul_le_mul_right _ hi
    refine .some ⟨by simp at l ⊢; omega, fun j v hv => q.2 j v ?_⟩
    simp at hv ⊢
    rw [List.getElem?_take] at hv
    split at hv
    · exact hv
    · cases hv
theorem src_drop {h : Hp} {sz n c i c' : Nat} {p : Addr} {cs : List Value} (hs : SrcAt h sz (.slice (some p) n c) n cs) (hi : i ≤ n) (hc : n ≤ c) : SrcAt h sz (.slice (offA (some p) c i sz) (n - i) c') (n - i) (cs.drop (i * sz)) := by
  cases hs with
  | some q =>
    have l := q.1
    have l' : cs.length = n * sz := by simpa using l
    unfold offA
    split
    · have e : i = n := by omega
      subst e
      rw [List.drop_of_length_le (by omega), Nat.sub_self]
      exact .some ⟨by simp, fun j v hv => by simp at hv⟩
    · refine .some ⟨by simp [l', Nat.sub_mul], fun j v hv => ?_⟩
      simp at hv
      have e : (p.add (i * sz)).add j = p.add (i * sz + j) := by
        unfold Addr.add
        by_cases h1 : i * sz = 0 <;> by_cases h2 : j = 0 <;> simp [h1, h2, Nat.add_assoc]
      show h.cell? ((p.add (i * sz)).add j) = some v
      rw [e]
      exact q.2 (i * sz + j) v (by simpa using hv)
end Go.Den.Mon
end

section
set_option linter.unusedVariables false
set_option maxRecDepth 100000
namespace Go.Den.Mon
open Go Go.Den
variable {h : Hp} {K : Value → Hp → Prop}
theorem mcs_take {l : List Raw} (ok : ∀ r ∈ l, r.Ok) : ∀ i, (mcs l).take (i * 20) = mcs (l.take i) := by
  induction l with
  | nil => intro i; simp [mcs]
  | cons x l ih =>
    intro i
    cases i with
    | zero => simp [mcs]
    | succ i =>
      have e : mcs (x :: l) = mc x ++ mcs l := by simp [mcs]
      have lx := mc_len (ok x (by simp))
      rw [e, List.take_append, lx, List.take_of_length_le (by omega), show (i + 1) * 20 - 20 = i * 20 by omega, ih (fun r hr => ok r (by simp [hr]))]
      simp [mcs]
theorem mcs_drop {l : List Raw} (ok : ∀ r ∈ l, r.Ok) : ∀ i, (mcs l).drop (i * 20) = mcs (l.drop i) := by
  induction l with
  | nil => intro i; simp [mcs]
  | cons x l ih =>
    intro i
    cases i with
    | zero => simp [mcs]
    | succ i =>
      have e : mcs (x :: l) = mc x ++ mcs l := by simp [mcs]
      have lx := mc_len (ok x (by simp))
      rw [e, List.drop_append, lx, List.drop_of_length_le (by omega), show (i + 1) * 20 - 20 = i * 20 by omega, ih (fun r hr => ok r (by simp [hr]))]
      simp
theorem mcs_cellish {l : List Raw} : ∀ v ∈ mcs l, cellish v = true := by
  intro v hv
  unfold mcs at hv
  obtain ⟨r, -, h2⟩ := List.mem_flatMap.1 hv
  exact mc_cellish v (by simpa using h2)
end Go.Den.Mon
end

section
set_option linter.unusedVariables false
set_option maxRecDepth 100000
namespace Go.Den.Mon
open Go Go.Den
variable {h : Hp} {K : Value → Hp → Prop}
/-- What stays: the slice holds cur, flat up to j, that reduces to the same. -/
structure RInv (h : Hp) (xs cur : List Raw) (j : Nat) (a : Option Addr) (c : Nat) (o : List Nat) (hh : Hp) : Prop where
  sl : SlAt hh T.api_Moniker 20 AnyV a cur.length c (mcs cur) o
  ok : ∀ r ∈ cur, r.Ok
  flat : flat (cur.take j)
  red : red [] cur = red [] xs
  len : cur.length ≤ xs.length
  j1 : 1 ≤ j
  jn : j ≤ xs.length + 1
  st : Step [] h o hh
theorem rReduced_spec {a : Option Addr} {n c : Nat} {xs : List Raw} (hs : SrcAt h 20 (.slice a n c) n (mcs xs)) (ok : ∀ r ∈ xs, r.Ok) (hl : xs.length = n) (hn : n < 1000000)
    (hk : ∀ a' c' o h', SlAt h' T.api_Moniker 20 AnyV a' (red [] xs).length c' (mcs (red [] xs)) o → (∀ r ∈ red [] xs, r.Ok) → Step [] h o h' → K (.slice a' (red [] xs).length c') h') :
    HC P ref21_Reduced.n #[.slice a n c] h K := by
  refine ref21_Reduced.hc ?_
  unfold ref21_Reduced
  intro b0 hb0
  have s0 : Step [] h [b0] (h.put b0 (.cells #[] T.api_Moniker (0, 0))) := Step.new hb0
  refine append_wp (P := P) (Z := AnyV) (vs := []) (o := [b0]) (cs := mcs xs) (n := n) slMon slMon.1 (.some (pre := []) (rest := []) (post := []) (by rw [put_self]; rfl) rfl (by simp) (by simp) (Nat.le_refl _) (by simp)) (fun _ _ _ _ _ _ => trivial) (hs.sub s0.sub0) mcs_cellish (by omega) fun a1 c1 o1 h1 t1 _ st1 => ?_
  have st1 := s0.trans st1
  obtain ⟨I0, hI0⟩ : ∃ I0 : List Value → Hp → Prop, I0 = fun vs hh => ∃ (cur : List Raw) (j : Nat) (a : Option Addr) (c : Nat) (o : List Nat), vs = [.slice a cur.length c, .int .i64 (j : Int)] ∧ RInv h xs cur j a c o hh := ⟨_, rfl⟩
  obtain ⟨x0, hx0⟩ : ∃ x0 : List Value → Hp → Nat, x0 = fun vs _ => match vs with | [.slice _ n1 _, .int _ i] => n1 * 2000000 + (1000002 - i.toNat) | _ => 0 := ⟨_, rfl⟩
  refine ⟨a1, _, c1, rfl, I0, x0, ?_⟩
  unfold ref21_Reduced.k6
  refine ⟨?_, ?_⟩
  · rw [hI0]
    refine ⟨xs, 1, a1, c1, o1, by rw [Nat.zero_add, hl]; rfl, ⟨?_, ok, ?_, rfl, Nat.le_refl _, by omega, by omega, st1⟩⟩
    · rw [hl]; simpa using t1
    · cases xs with
      | nil => trivial
      | cons x l => trivial
  intro hh a2 n1 c2 n2 hin
  rw [hI0] at hin
  obtain ⟨cur, j, a', c', o, he, iv⟩ := hin
  have e1 : a2 = a' ∧ n1 = cur.length ∧ c2 = c' ∧ n2 = (j : Int) := by cases he; exact ⟨rfl, rfl, rfl, rfl⟩
  clear he
  obtain ⟨rfl, rfl, rfl, rfl⟩ := e1
  have j1 := iv.j1
  have jn := iv.jn
  have hlen := iv.len
  refine bcase_intro (fun hc => ?_) fun hc => ?_
  case refine_2 =>
    have hc : cur.length ≤ j := by have := of_decide_eq_false hc; omega
    have f := iv.flat
    rw [List.take_of_length_le hc] at f
    have e : cur = red [] xs := by rw [← iv.red, flat_self f]
    have hk' := hk
    rw [← e] at hk'
    exact hk' a2 c2 o hh iv.sl iv.ok iv.st
  have hc : j < cur.length := by have := of_decide_eq_true hc; omega
  obtain ⟨x, hx⟩ : ∃ x, cur[j]? = some x := ⟨_, List.getElem?_eq_getElem hc⟩
  obtain ⟨y, hy⟩ : ∃ y, cur[j - 1]? = some y := ⟨_, List.getElem?_eq_getElem (by omega)⟩
  obtain ⟨p, ep, -, cp⟩ := srcM iv.sl.src iv.ok rfl hx
  obtain ⟨p', ep', -, cp'⟩ := srcM iv.sl.src iv.ok rfl hy
  have epp : p' = p := by rw [ep] at ep'; cases ep'; rfl
  subst epp
  have keep3 : ¬ (x.kind = 4 ∧ y.kind ≠ 4) → ref21_Reduced.k3 I0 (some p') cur.length c2 (j : Int) hh x0 := by
    intro hno
    unfold ref21_Reduced.k3
    rw [wrapN (m := j + 1) (by simp) (by omega)]
    refine ⟨by
      rw [hI0]
      exact ⟨cur, j + 1, some p', c2, o, rfl, ⟨by rw [← ep]; exact iv.sl, iv.ok, flat_take iv.flat hx fun z _ hz => (by rw [hy] at hz; cases hz; exact hno), iv.red, iv.len, by omega, by omega, iv.st⟩⟩, ?_⟩
    rw [hx0]
    show cur.length * 2000000 + (1000002 - ((j + 1 : Nat) : Int).toNat) < cur.length * 2000000 + (1000002 - (j : Int).toNat)
    omega
  have cx : hh.cell? ((p'.add (j * 20)).add 0) = some (.int .i64 x.kind) := (cp hh rfl).2 0 _ rfl
  have cy : hh.cell? ((p'.add ((j - 1) * 20)).add 0) = some (.int .i64 y.kind) := (cp' hh rfl).2 0 _ rfl
  unfold ref21_Reduced.k5
  rw [ep, someD_some, Int.toNat_natCast]
  refine ⟨by omega, by omega, _, cx, bcase_intro (fun c4 => ?_) fun c4 => keep3 fun q => by simp [q.1] at c4⟩
  have c4 : x.kind = 4 := by simpa using c4
  unfold ref21_Reduced.k4
  rw [wrapN (m := j - 1) (by omega) (by omega), someD_some, Int.toNat_natCast]
  refine ⟨by omega, by omega, _, cy, bcase_intro (fun c5 => ?_) fun c5 => keep3 fun q => by simp [q.2] at c5⟩
  have c5 : y.kind ≠ 4 := by simpa using c5
  have sl := iv.sl
  rw [ep] at sl
  have lc := sl.le_cap
  unfold ref21_Reduced.k2
  rw [wrapN (m := j - 1) (by omega) (by omega), Int.toNat_natCast, Nat.sub_zero, Nat.sub_zero]
  refine ⟨by omega, by omega, ?_⟩
  have T1 := src_take (c' := c2) sl.src (i := j - 1) (by omega)
  rw [mcs_take iv.ok] at T1
  refine append_wp (P := P) (Z := AnyV) (n := j - 1) slMon slMon.1 .none (fun _ _ _ _ _ _ => trivial) T1 mcs_cellish (by omega) fun a3 c3 o3 h3 t3 _ st3 => ⟨a3, _, c3, rfl, ?_⟩
  unfold ref21_Reduced.k1
  rw [wrapN (m := j + 1) (by simp) (by omega), Int.toNat_natCast]
  refine ⟨by omega, by omega, ?_⟩
  have T2 := src_drop (c' := c2 - (j + 1)) sl.src (i := j + 1) (by omega) lc
  rw [mcs_drop iv.ok] at T2
  refine append_wp (P := P) (Z := AnyV) (n := cur.length - (j + 1)) slMon slMon.1 t3 (fun _ _ _ _ _ _ => trivial) (T2.sub st3.sub0) mcs_cellish (by omega) fun a4 c4' o4 h4 t4 _ st4 => ⟨a4, _, c4', rfl, ?_⟩
  obtain ⟨nx, hnx⟩ : ∃ nx, nx = cur.take (j - 1) ++ cur.drop (j + 1) := ⟨_, rfl⟩
  have ecur : cur = cur.take (j - 1) ++ y :: x :: cur.drop (j + 1) := by
    have q1 : cur.drop (j - 1) = y :: cur.drop (j - 1 + 1) := by
      have := List.getElem_of_getElem? hy
      rw [← this.2]; exact List.drop_eq_getElem_cons this.1
    have q2 : cur.drop j = x :: cur.drop (j + 1) := by
      have := List.getElem_of_getElem? hx
      rw [← this.2]; exact List.drop_eq_getElem_cons this.1
    rw [show j - 1 + 1 = j by omega, q2] at q1
    conv => lhs; rw [← List.take_append_drop (j - 1) cur, q1]
  have lnx : nx.length = cur.length - 2 := by rw [hnx, List.length_append, List.length_take, List.length_drop]; omega
  have mnx : mcs nx = ([] : List Value) ++ mcs (cur.take (j - 1)) ++ mcs (cur.drop (j + 1)) := by rw [hnx]; simp [mcs]
  have elen : 0 + (j - 1) + (cur.length - (j + 1)) = nx.length := by omega
  rw [elen] at t4 ⊢
  rw [← mnx] at t4
  unfold ref21_Reduced.k0
  rw [wrapN (m := 1) (by simp) (by omega)]
  refine ⟨?_, ?_⟩
  · rw [hI0]
    refine ⟨nx, 1, a4, c4', o4, rfl, ⟨t4, fun r hr => ?_, ?_, ?_, by omega, by omega, by omega, ?_⟩⟩
    · rw [hnx] at hr
      rcases List.mem_append.1 hr with z | z
      · exact iv.ok r (List.mem_of_mem_take z)
      · exact iv.ok r (List.mem_of_mem_drop z)
    · cases nx with
      | nil => trivial
      | cons z l => trivial
    · rw [← iv.red, hnx]
      conv => rhs; rw [ecur]
      exact (red_cut c4 c5).symm
    · refine ((iv.st.trans (st3.frame o)).trans (st4.frame o)).weak (fun _ z => z) fun k hk => .inl (by simp [hk])
  · rw [hx0]
    show nx.length * 2000000 + (1000002 - ((1 : Nat) : Int).toNat) < cur.length * 2000000 + (1000002 - (j : Int).toNat)
    omega
end Go.Den.Mon
end

section
set_option linter.unusedVariables false
set_option maxRecDepth 100000
namespace Go.Den.Mon
open Go Go.Den
variable {h : Hp} {K : Value → Hp → Prop}
def leaf (r : Raw) : Mon := .mk r.kind r.id r.txt.data.toList r.H []
def ofTree : List Raw → Mon
  | [] => .mk 0 z16 [] 0 []
  | [r] => leaf r
  | r :: s :: l => .mk 5 z16 [] 0 ((r :: s :: l).map leaf)
def ofRaw (a : Option Addr) (c : Nat) : List Raw → Raw
  | [] => nl
  | [r] => r
  | r :: s :: l => li a (r :: s :: l).length c
theorem rp_sn {r : Raw} (e : rpart r = true) : r.sn = 0 := by
  unfold rpart at e
  split at e
  · exact (of_decide_eq_true e).2.2.1
  · split at e
    · exact (of_decide_eq_true e).2.2
    · split at e
      · exact (of_decide_eq_true e).2.2
      · split at e
        · exact (of_decide_eq_true e).2.2.2
        · cases e
theorem rp_kind {r : Raw} (e : rpart r = true) : r.kind = 1 ∨ r.kind = 2 ∨ r.kind = 3 ∨ r.kind = 4 := by
  unfold rpart at e
  split at e
  · exact .inl ‹_›
  · split at e
    · exact .inr (.inl ‹_›)
    · split at e
      · exact .inr (.inr (.inl ‹_›))
      · split at e
        · exact .inr (.inr (.inr ‹_›))
        · cases e
theorem rp_src {r : Raw} (e : rpart r = true) : SrcAt h 20 (.slice r.sa r.sn r.sc) r.sn (mcs []) := by
  rw [rp_sn e]
  cases r.sa with
  | none => exact .none
  | some p => exact .some ⟨by simp [mcs], fun j v hv => by simp [mcs] at hv⟩
theorem leaf_top {r : Raw} (k : r.Ok) (e : rpart r = true) : Top h r [] (leaf r) :=
  ⟨.mk (rows := []) (ms := []) k (by rw [rp_sn e]; omega) (by rw [rp_sn e]; rfl) (rp_src e) (by simp) rfl (by simp), rp_src e, by simp, by rw [rp_sn e]; rfl⟩
/-- A moniker that is right: its parts, its tree. -/
def Got (h : Hp) (l : List Raw) (y : Raw) : Prop := ∃ rows, Top h y rows (ofTree l) ∧ partsOf y rows = l ∧ rright y rows = true
theorem Got.step {h' : Hp} {l : List Raw} {y : Raw} (g : Got h l y) (s : Step [] h [] h') : Got h' l y := by
  obtain ⟨rows, t, e, f⟩ := g
  exact ⟨rows, t.step s, e, f⟩
theorem rr_part {r : Raw} (rp : rpart r = true) : rright r [] = true ∧ partsOf r [] = [r] := by
  have hk := rp_kind rp
  have h0 : r.kind ≠ 0 := by omega
  have h5 : r.kind ≠ 5 := by omega
  exact ⟨by unfold rright; rw [if_neg h0, if_neg h5]; exact rp, by unfold partsOf; rw [if_neg h0, if_neg h5]⟩
theorem got_of {a : Option Addr} {c : Nat} {l : List Raw} (hs : SrcAt h 20 (.slice a l.length c) l.length (mcs l)) (ok : ∀ r ∈ l, r.Ok) (rp : ∀ r ∈ l, rpart r = true) (hn : l.length ≤ 64) : Got h l (ofRaw a c l) := by
  match l, hs, ok, rp, hn with
  | [], _, _, _, _ => exact ⟨[], ⟨nl_deep, .none, by simp, rfl⟩, rfl, by unfold rright; rw [if_pos (show (ofRaw a c []).kind = 0 from rfl)]; exact decide_eq_true ⟨rfl, rfl, rfl, rfl⟩⟩
  | [r], _, ok, rp, _ =>
    have k := ok r (by simp)
    have e := rp r (by simp)
    exact ⟨[], leaf_top k e, (rr_part e).2, (rr_part e).1⟩
  | r :: s :: l, hs, ok, rp, hn =>
    refine ⟨r :: s :: l, ⟨.mk (x := li a (r :: s :: l).length c) (ms := (r :: s :: l).map leaf) li_ok (by show (r :: s :: l).length < _; omega) rfl hs ok (by simp) ?_, hs, ok, rfl⟩, rfl, ?_⟩
    · intro i q m hi hm
      rw [List.getElem?_map, hi] at hm
      cases hm
      have mq := List.mem_of_getElem? hi
      exact (leaf_top (ok q mq) (rp q mq)).deep
    · unfold rright
      rw [if_neg (by show ¬ ((5 : Int) = 0); omega), if_pos (show (ofRaw a c (r :: s :: l)).kind = 5 from rfl), decide_eq_true ⟨rfl, rfl, rfl, by show 2 ≤ (r :: s :: l).length; simp, hn⟩, Bool.true_and]
      exact List.all_eq_true.2 rp
theorem gOf_got {a : Option Addr} {c : Nat} {l : List Raw} (hs : SrcAt h 20 (.slice a l.length c) l.length (mcs l)) (ok : ∀ r ∈ l, r.Ok)
    (hk : l.length ≤ 64 → ∀ h', Step [] h [] h' → K (.tuple #[.agg (mc (ofRaw a c l)).toArray, .int .i64 0]) h') (hx : 64 < l.length → ∀ h', Step [] h [] h' → K (.tuple #[.agg (mc nl).toArray, .int .i64 20]) h') :
    HC P moniker_of.n #[.slice a l.length c] h K := by
  refine gOf_spec hs ok rfl (fun e h' s => ?_) (fun r e h' s => ?_) hx fun e1 e2 h' s => ?_
  · obtain rfl := List.length_eq_zero_iff.1 e
    exact hk (by simp) h' s
  · subst e
    exact hk (by simp) h' s
  · have := hk e2 h' s
    match l, e1, this with
    | [], e1, _ => simp at e1
    | [_], e1, _ => simp at e1
    | _ :: _ :: _, _, this => exact this
theorem rOf_got {a : Option Addr} {c : Nat} {l : List Raw} (hs : SrcAt h 20 (.slice a l.length c) l.length (mcs l)) (ok : ∀ r ∈ l, r.Ok)
    (hk : l.length ≤ 64 → ∀ h', Step [] h [] h' → K (.tuple #[.agg (mc (ofRaw a c l)).toArray, .bool true]) h') (hx : 64 < l.length → ∀ h', Step [] h [] h' → K (.tuple #[.agg (mc nl).toArray, .bool false]) h') :
    HC P ref21_Of.n #[.slice a l.length c] h K := by
  refine rOf_spec hs ok rfl (fun e h' s => ?_) (fun r e h' s => ?_) hx fun e1 e2 h' s => ?_
  · obtain rfl := List.length_eq_zero_iff.1 e
    exact hk (by simp) h' s
  · subst e
    exact hk (by simp) h' s
  · have := hk e2 h' s
    match l, e1, this with
    | [], e1, _ => simp at e1
    | [_], e1, _ => simp at e1
    | _ :: _ :: _, _, this => exact this
theorem ofRaw_ok {a : Option Addr} {c : Nat} {l : List Raw} (ok : ∀ r ∈ l, r.Ok) : (ofRaw a c l).Ok := by
  match l, ok with
  | [], _ => exact nl_ok
  | [r], ok => exact ok r (by simp)
  | _ :: _ :: _, _ => exact li_ok
/-- What is handed back by way of a block of one's own. -/
theorem retM2 {y : Raw} {b : Nat} {C : Value → Hp → Prop} (k : y.Ok) (hb : h b = some (.cells zMon T.api_Moniker (0, 0))) (hk : C (.agg (mc y).toArray) (h.put b (.cells (mc y).toArray T.api_Moniker (0, 0)))) :
    Free h ⟨b, 0, none⟩ 20 ∧ ∃ cs : Array Value, CellsAt (h.setCells ⟨b, 0, none⟩ (mc y).toArray) ⟨b, 0, none⟩ 20 cs ∧ C (.agg cs) (h.setCells ⟨b, 0, none⟩ (mc y).toArray) := by
  rw [setCells_blk (z := zMon) hb (by simpa using (mc_len k).symm)]
  exact ⟨free_blk hb rfl, _, cellsAt_blk put_self (by simpa using mc_len k), hk⟩
/-! ### Parts -/
section
variable {x : Raw} {rows : List Raw} {m : Mon}
theorem prt_right (e : rright x rows = true) : prt x rows = partsOf x rows := by unfold prt; rw [if_pos e]
theorem parts_rp (e : rright x rows = true) : ∀ r ∈ partsOf x rows, rpart r = true := by
  intro r hr
  unfold partsOf at hr
  unfold rright at e
  split at hr
  · simp at hr
  · rename_i h0
    rw [if_neg h0] at e
    split at hr
    · rename_i h5
      rw [if_pos h5, Bool.and_eq_true] at e
      exact List.all_eq_true.1 e.2 r hr
    · rename_i h5
      rw [if_neg h5] at e
      simp at hr; subst hr; exact e
theorem parts_len (t : Top h x rows m) (e : rright x rows = true) : (partsOf x rows).length ≤ 64 := by
  unfold partsOf
  unfold rright at e
  split
  · simp
  · rename_i h0
    rw [if_neg h0] at e
    split
    · rename_i h5
      rw [if_pos h5, Bool.and_eq_true] at e
      rw [t.len]
      exact (of_decide_eq_true e.1).2.2.2.2
    · simp
theorem red1_mem {out : List Raw} {x : Raw} : ∀ r ∈ red1 out x, r ∈ out ∨ r = x := by
  intro r hr
  unfold red1 at hr
  split at hr
  · split at hr
    · exact .inl (List.dropLast_subset _ hr)
    · simpa using hr
  · simpa using hr
theorem red_mem : ∀ {l out : List Raw}, ∀ r ∈ red out l, r ∈ out ∨ r ∈ l
  | [], out, r, hr => .inl hr
  | x :: l, out, r, hr => by
    rcases red_mem (l := l) (out := red1 out x) r hr with z | z
    · rcases red1_mem r z with z | z
      · exact .inl z
      · exact .inr (by simp [z])
    · exact .inr (by simp [z])
theorem red_rp {out l : List Raw} (h1 : ∀ r ∈ out, rpart r = true) (h2 : ∀ r ∈ l, rpart r = true) : ∀ r ∈ red out l, rpart r = true := fun r hr => (red_mem r hr).elim (h1 r) (h2 r)
end
end Go.Den.Mon
end

section
set_option linter.unusedVariables false
set_option maxRecDepth 100000
namespace Go.Den.Mon
open Go Go.Den
variable {h : Hp} {K : Value → Hp → Prop}
/-- Of what was reduced: the moniker, handed back by way of b1. -/
theorem retGot {b1 : Nat} {h2 : Hp} {l : List Raw} {a : Option Addr} {c : Nat} {o : List Nat} {C : Value → Hp → Prop} (ok : ∀ r ∈ l, r.Ok) (rp : ∀ r ∈ l, rpart r = true) (hn : l.length ≤ 64)
    (hb : h2 b1 = some (.cells zMon T.api_Moniker (0, 0))) (s : SlAt h2 T.api_Moniker 20 AnyV a l.length c (mcs l) o) (ho : b1 ∉ o) (st : Step [b1] h [b1] h2)
    (hk : ∀ y h', Got h' l y → Step [b1] h [b1] h' → C (.agg (mc y).toArray) h') :
    (∀ v, (v ∈ (Array.toList (mc (ofRaw a c l)).toArray : List Value) → cellish v = true)) ∧ Free h2 ⟨b1, 0, none⟩ 20 ∧ ∃ cs : Array Value, CellsAt (h2.setCells ⟨b1, 0, none⟩ (mc (ofRaw a c l)).toArray) ⟨b1, 0, none⟩ 20 cs ∧ C (.agg cs) (h2.setCells ⟨b1, 0, none⟩ (mc (ofRaw a c l)).toArray) := by
  refine ⟨mc_cellish, retM2 (C := C) (ofRaw_ok ok) hb (hk _ _ (got_of (a := a) (c := c) ?_ ok rp hn) (st.trans (Step.put (.inl (by simp)))))⟩
  exact (s.keep fun q hq => put_ne fun z => ho (by rw [← z]; exact hq)).src
theorem src_one {h : Hp} {b n : Nat} {x : Raw} (k : x.Ok) : SrcAt (h.put b (.cells (Array.mk (catA (mc x).toArray [])) T.api_Moniker (0, 0))) 20 (.slice (some ⟨b, 0, none⟩) 1 n) 1 (mcs [x]) := by
  have eC : (Array.mk (catA (mc x).toArray [])) = (mc x).toArray := by unfold catA; simp
  rw [eC]
  refine .some ⟨by simpa [mcs] using mc_len k, fun j v hv => ?_⟩
  rw [Addr.add_mk, cell_of put_self, Nat.zero_add]
  simpa [mcs] using hv
theorem Reduce_spec {x : Raw} {rows : List Raw} {m : Mon} (t : Top h x rows m) (hk : rright x rows = true → ∀ y h', Got h' (red [] (partsOf x rows)) y → Step [] h [] h' → K (.tuple #[.agg (mc y).toArray, .int .i64 0]) h')
    (hx : rright x rows = false → ∀ h', Step [] h [] h' → K (.tuple #[.agg (mc nl).toArray, .int .i64 5]) h') : HC P moniker_Reduce.n #[.agg (mc x).toArray] h K := by
  have k := t.deep.ok
  refine moniker_Reduce.hc ?_
  unfold moniker_Reduce
  intro b0 hb0 b1 hb1
  obtain ⟨H, hH⟩ : ∃ H, H = (h.put b0 (.cells (mc x).toArray T.api_Moniker (0, 0))).put b1 (.cells zMon T.api_Moniker (0, 0)) := ⟨_, rfl⟩
  have n10 : b0 ≠ b1 := fun q => by rw [← q, put_self] at hb1; cases hb1
  have f1 : h b1 = none := by rw [put_ne (Ne.symm n10)] at hb1; exact hb1
  have S0 : Step [] h [b1] H := by rw [hH]; exact (Step.put (.inr hb0)).trans (Step.new hb1)
  have M : MB H b0 x := by rw [hH]; show _ = _; rw [put_ne n10, put_self]
  have Z : H b1 = some (.cells zMon T.api_Moniker (0, 0)) := by rw [hH, put_self]
  rw [← hH]
  refine ⟨_, M.all k, Check_spec (t.step S0.forget0) fun h0 s0 => ⟨_, rfl, ?_⟩⟩
  have Z0 := s0.keepB0 Z
  have S1 : Step [] h [b1] h0 := S0.trans (by simpa using s0.frame [b1])
  unfold moniker_Reduce.k4
  cases hr : rright x rows with
  | false =>
    rw [if_neg (by simp)]
    refine bcT rfl ?_
    unfold moniker_Reduce.k0
    exact ⟨trivial, rfl, by simp [cellish], retM2 (y := nl) (C := fun v hh => K (.tuple #[v, .int .i64 5]) hh) nl_ok Z0 (hx hr _ (S1.trans (Step.put (.inl (by simp)))).forget0)⟩
  | true =>
    rw [if_pos rfl]
    refine bcF rfl ?_
    unfold moniker_Reduce.k3
    refine ⟨_, (M.step s0).all k, ⟨by simpa using mc_len k, mc_cellish, trivial⟩, fun b2 hb2 => ?_⟩
    have hle := parts_len t hr
    have hp := prt_right hr
    have S2 : Step [] h0 [] (h0.put b2 (.cells (Array.mk (catA (mc x).toArray [])) T.api_Moniker (0, 0))) := Step.put (.inr hb2)
    refine reduce_spec (ts := [(x, rows)]) (src_one k) rfl (by omega) (fun q hq => ?_) (fun q hq => ?_) fun a c o h1 s1 ok1 st1 => ⟨_, _, _, rfl, ?_⟩
    · simp at hq; subst hq
      exact ⟨m, (t.step S1.forget0).step S2⟩
    · simp at hq; subst hq
      show (prt x rows).length ≤ 1000
      rw [hp]; omega
    have eR : redAll [(x, rows)] = red [] (partsOf x rows) := by rw [← hp]; rfl
    rw [eR] at s1 ok1 ⊢
    have st1 : Step [] h0 o h1 := S2.trans st1
    have lr : (red [] (partsOf x rows)).length ≤ 64 := by
      have := red_len (out := []) (l := partsOf x rows)
      simp at this; omega
    have nb : b1 ∉ o := fun q => by
      rcases st1.own b1 q with z | z
      · cases z
      · rw [Z0] at z; cases z
    have toH : ∀ {h' : Hp}, Step [b1] h [b1] h' → Step [] h [] h' := fun s => ⟨fun q hq hn => s.keep q hq (by simp; exact fun z => hq (by rw [z]; exact f1)), by simp, s.dom⟩
    have S3 : ∀ {h2 : Hp}, Step [] h1 [] h2 → Step [b1] h [b1] h2 := fun {h2} s2 => by
      have s3 : Step [] h0 [] h2 := st1.forget0.trans s2
      have : Step [] h [b1] h2 := S1.trans (by simpa using s3.frame [b1])
      exact ⟨fun q hq hn => this.keep q hq (by simp), fun q hq => .inl hq, this.dom⟩
    unfold moniker_Reduce.k2
    refine gOf_got s1.src ok1 (fun _ h2 s2 => ?_) fun q => by omega
    refine ⟨_, _, rfl, by simpa using mc_len (ofRaw_ok ok1), ?_⟩
    unfold moniker_Reduce.k1
    exact retGot (h := h) (C := fun v hh => K (.tuple #[v, .int .i64 0]) hh) ok1 (red_rp (by simp) (parts_rp hr)) lr (s2.keepB0 (st1.keepB0 Z0)) (s1.keep fun q hq => s2.keep q (s1.mem q hq) (by simp)) nb (S3 s2) fun y h' g st => hk hr y h' g (toH st)
end Go.Den.Mon
end

section
set_option linter.unusedVariables false
set_option maxRecDepth 100000
namespace Go.Den.Mon
open Go Go.Den
variable {h : Hp} {K : Value → Hp → Prop}
def anti : Raw := ⟨4, z16, ⟨#[]⟩, 0, none, 0, 0⟩
theorem anti_ok : anti.Ok := ⟨z16_is, by show (0 : Nat) < _; omega, by show _ ≤ (4 : Int) ∧ (4 : Int) < _; omega, by show (0 : Nat) ≤ _; omega⟩
theorem anti_rp : rpart anti = true := by
  unfold rpart
  rw [if_neg (by show ¬ (4 : Int) = 1; omega), if_neg (by show ¬ (4 : Int) = 2; omega), if_neg (by show ¬ (4 : Int) = 3; omega), if_pos (by show (4 : Int) = 4; omega)]
  exact decide_eq_true ⟨rfl, rfl, rfl, rfl⟩
end Go.Den.Mon
end

section
set_option linter.unusedVariables false
set_option maxRecDepth 100000
namespace Go.Den.Mon
open Go Go.Den
variable {h : Hp} {K : Value → Hp → Prop}

def hex2 (x : Nat) : List UInt8 := [hexc (x / 16), hexc (x % 16)]
def sep (i : Nat) : List UInt8 := if dash i then [45] else []
def pr (g : List Nat) : Nat → List UInt8
  | 0 => [123]
  | k + 1 => pr g k ++ sep k ++ hex2 (g.getD k 0)
def prL (g : List Nat) : List UInt8 := pr g 16 ++ [125]
def prS (g : List Nat) : ByteArray := ⟨(prL g).toArray⟩
theorem pr_len {g : List Nat} : ∀ (k : Nat), (pr g k).length ≤ 1 + 3 * k
  | 0 => by simp [pr]
  | k + 1 => by
    have := pr_len (g := g) k
    have h2 : (sep k).length ≤ 1 := by unfold sep; split <;> simp
    simp only [pr, List.length_append, hex2, List.length_cons, List.length_nil]; omega
theorem bits15 : ((List.range 256).all fun n => bits .and .u8 (n : Int) 15 == ((n % 16 : Nat) : Int)) = true := by decide +kernel
theorem bits_15 {n : Nat} (hn : n < 256) : bits .and .u8 (n : Int) 15 = ((n % 16 : Nat) : Int) := by simpa using List.all_eq_true.1 bits15 n (List.mem_range.2 hn)
theorem fdiv16 {n : Nat} : Int.fdiv (n : Int) (2 ^ Min.min ((4 : Int).toNat) 8) = ((n / 16 : Nat) : Int) := by
  rw [show ((2 : Int) ^ Min.min ((4 : Int).toNat) 8) = 16 from rfl, Int.fdiv_eq_ediv_of_nonneg _ (by omega)]; omega

/-- What is written so far. -/
structure Wr (h0 h : Hp) (l : List UInt8) (v : Value) : Prop where
  row : ∃ a c o, v = .slice a l.length c ∧ SlAt h T.uint8 1 AnyV a l.length c (bvs l) o ∧ Step [] h0 o h
theorem Wr.push {h0 h : Hp} {l ws : List UInt8} {a : Option Addr} {len cap b n : Nat} {cs : Array Value} {K : Value → Hp → Prop} (w : Wr h0 h l (.slice a len cap)) (hb : h b = none) (hl : l.length ≤ 100) (hw : ws.length = n) (hn : n ≤ 2) (hcs : cs = (bvs ws).toArray)
    (hk : ∀ a' cap' h', Wr h0 h' (l ++ ws) (.slice a' (len + n) cap') → K (.slice a' (len + n) cap') h') :
    wpSem P (Builtin.append_ #[T.sl_uint8, T.sl_uint8] T.sl_uint8 #[.slice a len cap, .slice (some ⟨b, 0, none⟩) n n]) K (h.put b (.cells cs T.uint8 (0, 0))) := by
  obtain ⟨a0, c0, o, e, s, st⟩ := w.row
  cases e
  subst hcs
  refine pushB s hb hw (by omega) fun a' cap' o' h' s1 st1 => hk a' cap' h' ⟨a', cap', o', ?_, ?_, st.trans st1⟩
  · rw [List.length_append, hw]
  · rw [List.length_append, hw]; exact s1

theorem Wr.str {h0 h : Hp} {l : List UInt8} {a : Option Addr} {len cap : Nat} {K : Value → Hp → Prop} (w : Wr h0 h l (.slice a len cap)) (hk : Step [] h0 [] h → K (.string ⟨l.toArray⟩) h) : wpSem P (convDark T.sl_uint8 T.string (.slice a len cap)) K h := by
  obtain ⟨a0, c0, o, e, s, st⟩ := w.row
  cases e
  exact bytesStr_wp s.src (hk st.forget0)
abbrev rowI (H : Hp) (g : List Nat) : List Value → Hp → Prop := fun vs hh => ∃ (v : Value) (k : Nat), vs = [v, .int .i64 (k : Int)] ∧ k ≤ 16 ∧ Wr H hh (pr g k) v
abbrev rowX : List Value → Hp → Nat := fun vs _ => match vs with | [_, .int _ i] => 16 - i.toNat | _ => 0
theorem rowX_lt {v v' : Value} {k : Nat} {h h' : Hp} (hk : k < 16) : rowX [v, .int .i64 ((k + 1 : Nat) : Int)] h < rowX [v', .int .i64 (k : Int)] h' := by
  show 16 - ((k + 1 : Nat) : Int).toNat < 16 - (k : Int).toNat
  omega
theorem gPrint_spec {g : List Nat} (hg : isG g) (hk : ∀ h', Step [] h [] h' → K (.string (prS g)) h') : HC P guid_Print.n #[.agg (gcs g)] h K := by
  refine guid_Print.hc ?_
  unfold guid_Print
  intro b0 hb0 b1 hb1
  obtain ⟨n10, hb1'⟩ := put_none hb1
  obtain ⟨H, hH⟩ : ∃ H, H = h.put b0 (.cells (gcs g) T.api_Guid (0, 0)) := ⟨_, rfl⟩
  rw [← hH] at hb1 ⊢
  have B0 : H b0 = some (.cells (gcs g) T.api_Guid (0, 0)) := by rw [hH, put_self]
  have st0 : Step [] h [] H := by rw [hH]; exact Step.put (.inr hb0)
  have hsz : (gcs g).size = 16 := by rw [gcs_size, hg.1]
  have W0 : Wr H (H.put b1 (.cells #[.int .u8 123] T.uint8 (0, 0))) (pr g 0) (.slice (some ⟨b1, 0, none⟩) 1 1) :=
    ⟨_, _, [b1], rfl, .some (pre := []) (rest := []) (post := []) (by rw [put_self]; rfl) rfl rfl rfl (Nat.le_refl 1) (by simp), Step.new hb1⟩
  refine ⟨gcs g, cellsAt_blk (by rw [put_ne (Ne.symm n10)]; exact B0) hsz, rowI H g, rowX, ⟨_, 0, rfl, by omega, W0⟩, ?_⟩
  rintro h0 a0 n0 c0 n1 ⟨v, k, he, hk16, W⟩
  cases he
  have hpl := pr_len (g := g) k
  refine bcase_intro (fun hc => ?_) fun hc => ?_
  · have hc : k < 16 := by have := of_decide_eq_true hc; omega
    have hlt : k < g.length := by rw [hg.1]; exact hc
    have hx : g[k] < 256 := hg.2 _ (List.getElem_mem _)
    have hgd : g.getD k 0 = g[k] := by simp [List.getD, hlt]
    unfold guid_Print.k5
    refine ⟨by omega, by omega, (g[k] : Int), by rw [Int.toNat_natCast, Nat.mul_one, gcs_get]; simp [hlt], dash_spec ⟨_, rfl, ?_⟩⟩
    have w1 : IntKind.wrap .i64 ((k : Int) + 1) = ((k + 1 : Nat) : Int) := wrapN (by omega) (by omega)
    unfold guid_Print.k4
    refine bcase_intro (fun hd => ?_) fun hd => ?_
    · unfold guid_Print.k2
      intro b3 hb3
      refine W.push (ws := [45]) hb3 (by omega) rfl (by omega) rfl fun a1 c1 h2 W2 => ⟨_, _, _, rfl, ?_⟩
      unfold guid_Print.k1
      rw [fdiv16, bits_15 hx]
      refine ⟨by omega, by omega, _, by rw [Int.toNat_natCast]; exact hex_get (by omega), by omega, _, by rw [Int.toNat_natCast]; exact hex_get (by omega), ?_⟩
      intro b6 hb6
      refine W2.push (ws := hex2 g[k]) hb6 (by simp; omega) rfl (by omega) rfl fun a2 c2 h3 W3 => ⟨_, _, _, rfl, ?_⟩
      unfold guid_Print.k0
      rw [w1]
      refine ⟨⟨_, k + 1, rfl, by omega, ?_⟩, rowX_lt hc⟩
      have e : pr g (k + 1) = pr g k ++ [45] ++ hex2 g[k] := by simp only [pr, sep, hd, if_true, hgd]
      rw [e]; exact W3
    · unfold guid_Print.k3
      rw [fdiv16, bits_15 hx]
      refine ⟨by omega, by omega, _, by rw [Int.toNat_natCast]; exact hex_get (by omega), by omega, _, by rw [Int.toNat_natCast]; exact hex_get (by omega), ?_⟩
      intro b6 hb6
      refine W.push (ws := hex2 g[k]) hb6 (by omega) rfl (by omega) rfl fun a2 c2 h3 W3 => ⟨_, _, _, rfl, ?_⟩
      unfold guid_Print.k0
      rw [w1]
      refine ⟨⟨_, k + 1, rfl, by omega, ?_⟩, rowX_lt hc⟩
      have e : pr g (k + 1) = pr g k ++ hex2 g[k] := by simp only [pr, sep, hd, hgd]; simp
      rw [e]; exact W3
  · have hc : k = 16 := by have := of_decide_eq_false hc; omega
    subst hc
    unfold guid_Print.k7
    intro b10 hb10
    refine W.push (ws := [125]) hb10 (by omega) rfl (by omega) rfl fun a1 c1 h2 W2 => ⟨_, _, _, rfl, ?_⟩
    unfold guid_Print.k6
    exact W2.str fun st => ⟨_, rfl, hk _ (st0.trans st)⟩

end Go.Den.Mon
end

section
set_option linter.unusedVariables false
namespace Go.Proofs
open Go.Shelf
def Tryd.lays105_ren : Go.Shelf.Ren := ⟨fun | 105 => 53 | 212 => 64 | 99 => 65 | 165 => 66 | 166 => 50 | 170 => 67 | 169 => 54 | 263 => 78 | 264 => 79 | 206 => 80 | 240 => 60 | 241 => 81 | 276 => 72 | 277 => 88 | n => n, fun | 9 => 9 | 3 => 3 | 4 => 4 | 20 => 20 | 0 => 0 | 46 => 129 | 109 => 135 | 5 => 5 | 72 => 114 | 76 => 122 | 51 => 57 | 146 => 148 | 53 => 24 | 148 => 150 | 70 => 111 | 37 => 112 | 75 => 119 | 127 => 139 | 164 => 141 | 80 => 127 | n => n, fun | n => n⟩
theorem Tryd.lays105 : Go.Proofs.Lays.n105 Tryd.prog Tryd.lays105_ren := {
  mixed := by kernel_rfl
  f99 := Tryd.func65.trans (congrArg some (by kernel_rfl))
  f105 := Tryd.func53.trans (congrArg some (by kernel_rfl))
  f165 := Tryd.func66.trans (congrArg some (by kernel_rfl))
  f166 := Tryd.func50.trans (congrArg some (by kernel_rfl))
  f169 := Tryd.func54.trans (congrArg some (by kernel_rfl))
  f170 := Tryd.func67.trans (congrArg some (by kernel_rfl))
  f206 := Tryd.func80.trans (congrArg some (by kernel_rfl))
  f212 := Tryd.func64.trans (congrArg some (by kernel_rfl))
  f240 := Tryd.func60.trans (congrArg some (by kernel_rfl))
  f241 := Tryd.func81.trans (congrArg some (by kernel_rfl))
  f263 := Tryd.func78.trans (congrArg some (by kernel_rfl))
  f264 := Tryd.func79.trans (congrArg some (by kernel_rfl))
  f276 := Tryd.func72.trans (congrArg some (by kernel_rfl))
  f277 := Tryd.func88.trans (congrArg some (by kernel_rfl))
  t0 := Tryd.underlying0
  a0 := Tryd.isAgg0
  z0 := Tryd.sizeOf0
  v0 := Tryd.zeroValue0
  t3 := Tryd.underlying3
  a3 := Tryd.isAgg3
  z3 := Tryd.sizeOf3
  v3 := Tryd.zeroValue3
  t4 := Tryd.underlying4
  a4 := Tryd.isAgg4
  z4 := Tryd.sizeOf4
  v4 := Tryd.zeroValue4
  t5 := Tryd.underlying5
  a5 := Tryd.isAgg5
  z5 := Tryd.sizeOf5
  v5 := Tryd.zeroValue5
  t9 := Tryd.underlying9
  a9 := Tryd.isAgg9
  z9 := Tryd.sizeOf9
  v9 := Tryd.zeroValue9
  t20 := Tryd.underlying20
  a20 := Tryd.isAgg20
  z20 := Tryd.sizeOf20
  v20 := Tryd.zeroValue20
  t37 := Tryd.underlying112
  a37 := Tryd.isAgg112
  z37 := Tryd.sizeOf112
  v37 := Tryd.zeroValue112
  t46 := Tryd.underlying129
  a46 := Tryd.isAgg129
  z46 := Tryd.sizeOf129
  v46 := Tryd.zeroValue129
  t51 := Tryd.underlying57
  a51 := Tryd.isAgg57
  z51 := Tryd.sizeOf57
  v51 := Tryd.zeroValue57
  t53 := Tryd.underlying24
  a53 := Tryd.isAgg24
  z53 := Tryd.sizeOf24
  v53 := Tryd.zeroValue24
  t70 := Tryd.underlying111
  a70 := Tryd.isAgg111
  z70 := Tryd.sizeOf111
  v70 := Tryd.zeroValue111
  t72 := Tryd.underlying114
  a72 := Tryd.isAgg114
  z72 := Tryd.sizeOf114
  v72 := Tryd.zeroValue114
  t75 := Tryd.underlying119
  a75 := Tryd.isAgg119
  z75 := Tryd.sizeOf119
  v75 := Tryd.zeroValue119
  t76 := Tryd.underlying122
  a76 := Tryd.isAgg122
  z76 := Tryd.sizeOf122
  v76 := Tryd.zeroValue122
  t109 := Tryd.underlying135
  a109 := Tryd.isAgg135
  z109 := Tryd.sizeOf135
  v109 := Tryd.zeroValue135
  t127 := Tryd.underlying139
  a127 := Tryd.isAgg139
  z127 := Tryd.sizeOf139
  v127 := Tryd.zeroValue139
  t146 := Tryd.underlying148
  a146 := Tryd.isAgg148
  z146 := Tryd.sizeOf148
  v146 := Tryd.zeroValue148
  t148 := Tryd.underlying150
  a148 := Tryd.isAgg150
  z148 := Tryd.sizeOf150
  v148 := Tryd.zeroValue150
  t164 := Tryd.underlying141
  a164 := Tryd.isAgg141
  z164 := Tryd.sizeOf141
  v164 := Tryd.zeroValue141 }
theorem Tryd.Builder_Extra_105 : Builder.Extra Tryd.prog Tryd.lays105_ren := {
  sizeBuilder := by kernel_rfl
  liesBuilder := by kernel_rfl
  t5 := Tryd.underlying5
  a5 := Tryd.isAgg5
  z5 := Tryd.sizeOf5
  v5 := Tryd.zeroValue5
  infoByte := by kernel_rfl
  cellsByte := by kernel_rfl
  sizeByte := by kernel_rfl
  neB5 := by decide }
open Go.RowKit Go.Lib in
/-- **strings.Repeat: count ≥ 0, the result within one allocation: count copies of s.** (LAID: no walk: one application.) -/
theorem Tryd.strings_Repeat (s : ByteArray) (c : Nat) (w : World) (hc : c ≤ 9223372036854775807) (hlen : s.size * c ≤ 140737488355328) :
    Calls Tryd.prog 53 #[.string s, .int .i64 c] w fun e w' => e = .returned (.string ⟨(Lib.repeatL s.data.toList c).toArray⟩) ∧ Below w.heap.size w w' := Any.strings_Repeat Tryd.lays105 Tryd.Builder_Extra_105 s c w hc hlen
end Go.Proofs
end

section
set_option linter.unusedVariables false
set_option maxRecDepth 100000
namespace Go.Den.Mon
open Go Go.Den

noncomputable section

def internal_strconv_formatBits.k0 (n4 : Int) (n1 : Int) (n3 : Int) (h2 : Hp) (b2 : Nat) (n2 : Int) (I0 : List Value → Hp → Prop) (x0 : List Value → Hp → Nat) : Prop :=
 ((0 : Int) ≤ (bits .and .u64 n4 (IntKind.wrap .u64 ((IntKind.wrap .u64 n1) - 1)))) ∧ (∃ b4 : UInt8, (((⟨#[48, 49, 50, 51, 52, 53, 54, 55, 56, 57, 97, 98, 99, 100, 101, 102, 103, 104, 105, 106, 107, 108, 109, 110, 111, 112, 113, 114, 115, 116, 117, 118, 119, 120, 121, 122]⟩ : ByteArray)[(bits .and .u64 n4 (IntKind.wrap .u64 ((IntKind.wrap .u64 n1) - 1))).toNat]?) = (some b4)) ∧ ((0 : Int) ≤ (IntKind.wrap .i64 (n3 - 1))) ∧ ((IntKind.wrap .i64 (n3 - 1)) < (65 : Int)) ∧ (∃ u0 : Value, (h2.cell? ((⟨b2, 0, none⟩ : Addr).add ((IntKind.wrap .i64 (n3 - 1)).toNat * 1))) = (some u0)) ∧ ((h2.frozen? ((⟨b2, 0, none⟩ : Addr).add ((IntKind.wrap .i64 (n3 - 1)).toNat * 1))) = Bool.false) ∧ ((0 : Int) ≤ (IntKind.wrap .u64 n2)) ∧ (I0 [.int .i64 (IntKind.wrap .i64 (n3 - 1)), .int .u64 (Int.fdiv n4 (2 ^ Min.min ((IntKind.wrap .u64 n2).toNat) 64))] (h2.setCell ((⟨b2, 0, none⟩ : Addr).add ((IntKind.wrap .i64 (n3 - 1)).toNat * 1)) (.int .u8 (b4.toNat : Int)))) ∧ (x0 [.int .i64 (IntKind.wrap .i64 (n3 - 1)), .int .u64 (Int.fdiv n4 (2 ^ Min.min ((IntKind.wrap .u64 n2).toNat) 64))] (h2.setCell ((⟨b2, 0, none⟩ : Addr).add ((IntKind.wrap .i64 (n3 - 1)).toNat * 1)) (.int .u8 (b4.toNat : Int)))) < (x0 [.int .i64 n3, .int .u64 n4] h2))
def internal_strconv_formatBits.k1 (n3 : Int) (a0 : Option Addr) (len0 : Nat) (cap0 : Nat) (b2 : Nat) (K : Value → Hp → Prop) (h2 : Hp) (b5 : UInt8) : Prop :=
 ((0 : Int) ≤ (IntKind.wrap .i64 ((IntKind.wrap .i64 (n3 - 1)) - 1))) ∧ ((IntKind.wrap .i64 ((IntKind.wrap .i64 (n3 - 1)) - 1)) ≤ (65 : Int)) ∧ wpSem P (Builtin.append_ #[T.sl_uint8, T.sl_uint8] T.sl_uint8 #[.slice a0 len0 cap0, .slice (Den.offA (some ⟨b2, 0, none⟩) 65 ((IntKind.wrap .i64 ((IntKind.wrap .i64 (n3 - 1)) - 1)).toNat) 1) (65 - (IntKind.wrap .i64 ((IntKind.wrap .i64 (n3 - 1)) - 1)).toNat) (65 - (IntKind.wrap .i64 ((IntKind.wrap .i64 (n3 - 1)) - 1)).toNat)]) (fun v2 h3 => (∃ a1 : Option Addr, (∃ n5 : Nat, (∃ c0 : Nat, (v2 = (.slice a1 n5 c0)) ∧ K (.tuple #[.slice a1 n5 c0, .string (⟨#[]⟩ : ByteArray)]) h3)))) ((h2.setCell ((⟨b2, 0, none⟩ : Addr).add ((IntKind.wrap .i64 (n3 - 1)).toNat * 1)) (.int .u8 (b5.toNat : Int))).setCell ((⟨b2, 0, none⟩ : Addr).add ((IntKind.wrap .i64 ((IntKind.wrap .i64 (n3 - 1)) - 1)).toNat * 1)) (.int .u8 45))
def internal_strconv_formatBits.k2 (n3 : Int) (b2 : Nat) (K : Value → Hp → Prop) (h2 : Hp) (b5 : UInt8) : Prop :=
 ((0 : Int) ≤ (IntKind.wrap .i64 ((IntKind.wrap .i64 (n3 - 1)) - 1))) ∧ ((IntKind.wrap .i64 ((IntKind.wrap .i64 (n3 - 1)) - 1)) ≤ (65 : Int)) ∧ wpSem P (convDark T.sl_uint8 T.string (.slice (Den.offA (some ⟨b2, 0, none⟩) 65 ((IntKind.wrap .i64 ((IntKind.wrap .i64 (n3 - 1)) - 1)).toNat) 1) (65 - (IntKind.wrap .i64 ((IntKind.wrap .i64 (n3 - 1)) - 1)).toNat) (65 - (IntKind.wrap .i64 ((IntKind.wrap .i64 (n3 - 1)) - 1)).toNat))) (fun v3 h4 => (∃ s0 : ByteArray, (v3 = (.string s0)) ∧ K (.tuple #[.slice none 0 0, .string s0]) h4)) ((h2.setCell ((⟨b2, 0, none⟩ : Addr).add ((IntKind.wrap .i64 (n3 - 1)).toNat * 1)) (.int .u8 (b5.toNat : Int))).setCell ((⟨b2, 0, none⟩ : Addr).add ((IntKind.wrap .i64 ((IntKind.wrap .i64 (n3 - 1)) - 1)).toNat * 1)) (.int .u8 45))
def internal_strconv_formatBits.k3 (n3 : Int) (h2 : Hp) (b2 : Nat) (b5 : UInt8) (b1 : Bool) (a0 : Option Addr) (len0 : Nat) (cap0 : Nat) (K : Value → Hp → Prop) : Prop :=
 ((0 : Int) ≤ (IntKind.wrap .i64 ((IntKind.wrap .i64 (n3 - 1)) - 1))) ∧ ((IntKind.wrap .i64 ((IntKind.wrap .i64 (n3 - 1)) - 1)) < (65 : Int)) ∧ (∃ u2 : Value, ((h2.setCell ((⟨b2, 0, none⟩ : Addr).add ((IntKind.wrap .i64 (n3 - 1)).toNat * 1)) (.int .u8 (b5.toNat : Int))).cell? ((⟨b2, 0, none⟩ : Addr).add ((IntKind.wrap .i64 ((IntKind.wrap .i64 (n3 - 1)) - 1)).toNat * 1))) = (some u2)) ∧ (((h2.setCell ((⟨b2, 0, none⟩ : Addr).add ((IntKind.wrap .i64 (n3 - 1)).toNat * 1)) (.int .u8 (b5.toNat : Int))).frozen? ((⟨b2, 0, none⟩ : Addr).add ((IntKind.wrap .i64 ((IntKind.wrap .i64 (n3 - 1)) - 1)).toNat * 1))) = Bool.false) ∧ bcase (b1)
 ((internal_strconv_formatBits.k1 n3 a0 len0 cap0 b2 K h2 b5))
 ((internal_strconv_formatBits.k2 n3 b2 K h2 b5))
def internal_strconv_formatBits.k4 (n3 : Int) (a0 : Option Addr) (len0 : Nat) (cap0 : Nat) (b2 : Nat) (K : Value → Hp → Prop) (h2 : Hp) (b5 : UInt8) : Prop :=
 ((0 : Int) ≤ (IntKind.wrap .i64 (n3 - 1))) ∧ ((IntKind.wrap .i64 (n3 - 1)) ≤ (65 : Int)) ∧ wpSem P (Builtin.append_ #[T.sl_uint8, T.sl_uint8] T.sl_uint8 #[.slice a0 len0 cap0, .slice (Den.offA (some ⟨b2, 0, none⟩) 65 ((IntKind.wrap .i64 (n3 - 1)).toNat) 1) (65 - (IntKind.wrap .i64 (n3 - 1)).toNat) (65 - (IntKind.wrap .i64 (n3 - 1)).toNat)]) (fun v4 h5 => (∃ a2 : Option Addr, (∃ n6 : Nat, (∃ c1 : Nat, (v4 = (.slice a2 n6 c1)) ∧ K (.tuple #[.slice a2 n6 c1, .string (⟨#[]⟩ : ByteArray)]) h5)))) (h2.setCell ((⟨b2, 0, none⟩ : Addr).add ((IntKind.wrap .i64 (n3 - 1)).toNat * 1)) (.int .u8 (b5.toNat : Int)))
def internal_strconv_formatBits.k5 (n3 : Int) (b2 : Nat) (K : Value → Hp → Prop) (h2 : Hp) (b5 : UInt8) : Prop :=
 ((0 : Int) ≤ (IntKind.wrap .i64 (n3 - 1))) ∧ ((IntKind.wrap .i64 (n3 - 1)) ≤ (65 : Int)) ∧ wpSem P (convDark T.sl_uint8 T.string (.slice (Den.offA (some ⟨b2, 0, none⟩) 65 ((IntKind.wrap .i64 (n3 - 1)).toNat) 1) (65 - (IntKind.wrap .i64 (n3 - 1)).toNat) (65 - (IntKind.wrap .i64 (n3 - 1)).toNat))) (fun v5 h6 => (∃ s1 : ByteArray, (v5 = (.string s1)) ∧ K (.tuple #[.slice none 0 0, .string s1]) h6)) (h2.setCell ((⟨b2, 0, none⟩ : Addr).add ((IntKind.wrap .i64 (n3 - 1)).toNat * 1)) (.int .u8 (b5.toNat : Int)))
def internal_strconv_formatBits.k6 (b1 : Bool) (n3 : Int) (a0 : Option Addr) (len0 : Nat) (cap0 : Nat) (b2 : Nat) (K : Value → Hp → Prop) (h2 : Hp) (b5 : UInt8) : Prop :=
 bcase (b1)
 ((internal_strconv_formatBits.k4 n3 a0 len0 cap0 b2 K h2 b5))
 ((internal_strconv_formatBits.k5 n3 b2 K h2 b5))
def internal_strconv_formatBits.k7 (n4 : Int) (n3 : Int) (h2 : Hp) (b2 : Nat) (b0 : Bool) (b1 : Bool) (a0 : Option Addr) (len0 : Nat) (cap0 : Nat) (K : Value → Hp → Prop) : Prop :=
 ((0 : Int) ≤ n4) ∧ (∃ b5 : UInt8, (((⟨#[48, 49, 50, 51, 52, 53, 54, 55, 56, 57, 97, 98, 99, 100, 101, 102, 103, 104, 105, 106, 107, 108, 109, 110, 111, 112, 113, 114, 115, 116, 117, 118, 119, 120, 121, 122]⟩ : ByteArray)[n4.toNat]?) = (some b5)) ∧ ((0 : Int) ≤ (IntKind.wrap .i64 (n3 - 1))) ∧ ((IntKind.wrap .i64 (n3 - 1)) < (65 : Int)) ∧ (∃ u1 : Value, (h2.cell? ((⟨b2, 0, none⟩ : Addr).add ((IntKind.wrap .i64 (n3 - 1)).toNat * 1))) = (some u1)) ∧ ((h2.frozen? ((⟨b2, 0, none⟩ : Addr).add ((IntKind.wrap .i64 (n3 - 1)).toNat * 1))) = Bool.false) ∧ bcase (b0)
 ((internal_strconv_formatBits.k3 n3 h2 b2 b5 b1 a0 len0 cap0 K))
 ((internal_strconv_formatBits.k6 b1 n3 a0 len0 cap0 b2 K h2 b5)))
def internal_strconv_formatBits.k8 (I0 : List Value → Hp → Prop) (n0 : Int) (h1 : Hp) (n1 : Int) (b2 : Nat) (n2 : Int) (x0 : List Value → Hp → Nat) (b0 : Bool) (b1 : Bool) (a0 : Option Addr) (len0 : Nat) (cap0 : Nat) (K : Value → Hp → Prop) : Prop :=
 (I0 [.int .i64 65, .int .u64 (IntKind.wrap .u64 (0 - n0))] h1) ∧ (∀ h2 : Hp, (∀ n3 : Int, (∀ n4 : Int, (I0 [.int .i64 n3, .int .u64 n4] h2 → bcase (decide ((IntKind.wrap .u64 n1) ≤ n4))
 ((internal_strconv_formatBits.k0 n4 n1 n3 h2 b2 n2 I0 x0))
 ((internal_strconv_formatBits.k7 n4 n3 h2 b2 b0 b1 a0 len0 cap0 K))))))
def internal_strconv_formatBits.k9 (n1 : Int) (h0 : Hp) (n0 : Int) (b2 : Nat) (b0 : Bool) (b1 : Bool) (a0 : Option Addr) (len0 : Nat) (cap0 : Nat) (K : Value → Hp → Prop) : Prop :=
 HC P math_bits_TrailingZeros.n #[.int .u64 (IntKind.wrap .u64 n1)] h0 (fun v1 h1 => (∃ n2 : Int, (v1 = (.int .i64 n2)) ∧ (∃ I0 : List Value → Hp → Prop, (∃ x0 : List Value → Hp → Nat, (internal_strconv_formatBits.k8 I0 n0 h1 n1 b2 n2 x0 b0 b1 a0 len0 cap0 K)))))
def internal_strconv_formatBits.k10 (n1 : Int) (n8 : Int) (n7 : Int) (h7 : Hp) (b2 : Nat) (I1 : List Value → Hp → Prop) (x1 : List Value → Hp → Nat) : Prop :=
 ((IntKind.wrap .u64 n1) ≠ 0) ∧ ((0 : Int) ≤ (IntKind.wrap .u64 (n8 - (IntKind.wrap .u64 ((IntKind.wrap .u64 (Int.tdiv n8 (IntKind.wrap .u64 n1))) * (IntKind.wrap .u64 n1)))))) ∧ (∃ b6 : UInt8, (((⟨#[48, 49, 50, 51, 52, 53, 54, 55, 56, 57, 97, 98, 99, 100, 101, 102, 103, 104, 105, 106, 107, 108, 109, 110, 111, 112, 113, 114, 115, 116, 117, 118, 119, 120, 121, 122]⟩ : ByteArray)[(IntKind.wrap .u64 (n8 - (IntKind.wrap .u64 ((IntKind.wrap .u64 (Int.tdiv n8 (IntKind.wrap .u64 n1))) * (IntKind.wrap .u64 n1))))).toNat]?) = (some b6)) ∧ ((0 : Int) ≤ (IntKind.wrap .i64 (n7 - 1))) ∧ ((IntKind.wrap .i64 (n7 - 1)) < (65 : Int)) ∧ (∃ u3 : Value, (h7.cell? ((⟨b2, 0, none⟩ : Addr).add ((IntKind.wrap .i64 (n7 - 1)).toNat * 1))) = (some u3)) ∧ ((h7.frozen? ((⟨b2, 0, none⟩ : Addr).add ((IntKind.wrap .i64 (n7 - 1)).toNat * 1))) = Bool.false) ∧ (I1 [.int .i64 (IntKind.wrap .i64 (n7 - 1)), .int .u64 (IntKind.wrap .u64 (Int.tdiv n8 (IntKind.wrap .u64 n1)))] (h7.setCell ((⟨b2, 0, none⟩ : Addr).add ((IntKind.wrap .i64 (n7 - 1)).toNat * 1)) (.int .u8 (b6.toNat : Int)))) ∧ (x1 [.int .i64 (IntKind.wrap .i64 (n7 - 1)), .int .u64 (IntKind.wrap .u64 (Int.tdiv n8 (IntKind.wrap .u64 n1)))] (h7.setCell ((⟨b2, 0, none⟩ : Addr).add ((IntKind.wrap .i64 (n7 - 1)).toNat * 1)) (.int .u8 (b6.toNat : Int)))) < (x1 [.int .i64 n7, .int .u64 n8] h7))
def internal_strconv_formatBits.k11 (n0 : Int) (h0 : Hp) (n1 : Int) (b2 : Nat) (b0 : Bool) (b1 : Bool) (a0 : Option Addr) (len0 : Nat) (cap0 : Nat) (K : Value → Hp → Prop) : Prop :=
 (∃ I1 : List Value → Hp → Prop, (∃ x1 : List Value → Hp → Nat, (I1 [.int .i64 65, .int .u64 (IntKind.wrap .u64 (0 - n0))] h0) ∧ (∀ h7 : Hp, (∀ n7 : Int, (∀ n8 : Int, (I1 [.int .i64 n7, .int .u64 n8] h7 → bcase (decide ((IntKind.wrap .u64 n1) ≤ n8))
 ((internal_strconv_formatBits.k10 n1 n8 n7 h7 b2 I1 x1))
 ((internal_strconv_formatBits.k7 n8 n7 h7 b2 b0 b1 a0 len0 cap0 K))))))))
def internal_strconv_formatBits.k12 (b3 : Bool) (n1 : Int) (h0 : Hp) (n0 : Int) (b2 : Nat) (b0 : Bool) (b1 : Bool) (a0 : Option Addr) (len0 : Nat) (cap0 : Nat) (K : Value → Hp → Prop) : Prop :=
 bcase (b3)
 ((internal_strconv_formatBits.k9 n1 h0 n0 b2 b0 b1 a0 len0 cap0 K))
 ((internal_strconv_formatBits.k11 n0 h0 n1 b2 b0 b1 a0 len0 cap0 K))
def internal_strconv_formatBits.k13 (n1 : Int) (h : Hp) (b2 : Nat) (n0 : Int) (b0 : Bool) (b1 : Bool) (a0 : Option Addr) (len0 : Nat) (cap0 : Nat) (K : Value → Hp → Prop) : Prop :=
 HC P internal_strconv_isPowerOfTwo.n #[.int .i64 n1] (h.put b2 (.cells #[.int .u8 0, .int .u8 0, .int .u8 0, .int .u8 0, .int .u8 0, .int .u8 0, .int .u8 0, .int .u8 0, .int .u8 0, .int .u8 0, .int .u8 0, .int .u8 0, .int .u8 0, .int .u8 0, .int .u8 0, .int .u8 0, .int .u8 0, .int .u8 0, .int .u8 0, .int .u8 0, .int .u8 0, .int .u8 0, .int .u8 0, .int .u8 0, .int .u8 0, .int .u8 0, .int .u8 0, .int .u8 0, .int .u8 0, .int .u8 0, .int .u8 0, .int .u8 0, .int .u8 0, .int .u8 0, .int .u8 0, .int .u8 0, .int .u8 0, .int .u8 0, .int .u8 0, .int .u8 0, .int .u8 0, .int .u8 0, .int .u8 0, .int .u8 0, .int .u8 0, .int .u8 0, .int .u8 0, .int .u8 0, .int .u8 0, .int .u8 0, .int .u8 0, .int .u8 0, .int .u8 0, .int .u8 0, .int .u8 0, .int .u8 0, .int .u8 0, .int .u8 0, .int .u8 0, .int .u8 0, .int .u8 0, .int .u8 0, .int .u8 0, .int .u8 0, .int .u8 0] T.t65_uint8 (0, 0))) (fun v0 h0 => (∃ b3 : Bool, (v0 = (.bool b3)) ∧ (internal_strconv_formatBits.k12 b3 n1 h0 n0 b2 b0 b1 a0 len0 cap0 K)))
def internal_strconv_formatBits.k14 (I2 : List Value → Hp → Prop) (n0 : Int) (h9 : Hp) (n1 : Int) (b2 : Nat) (n9 : Int) (x2 : List Value → Hp → Nat) (b0 : Bool) (b1 : Bool) (a0 : Option Addr) (len0 : Nat) (cap0 : Nat) (K : Value → Hp → Prop) : Prop :=
 (I2 [.int .i64 65, .int .u64 n0] h9) ∧ (∀ h10 : Hp, (∀ n10 : Int, (∀ n11 : Int, (I2 [.int .i64 n10, .int .u64 n11] h10 → bcase (decide ((IntKind.wrap .u64 n1) ≤ n11))
 ((internal_strconv_formatBits.k0 n11 n1 n10 h10 b2 n9 I2 x2))
 ((internal_strconv_formatBits.k7 n11 n10 h10 b2 b0 b1 a0 len0 cap0 K))))))
def internal_strconv_formatBits.k15 (n1 : Int) (h8 : Hp) (n0 : Int) (b2 : Nat) (b0 : Bool) (b1 : Bool) (a0 : Option Addr) (len0 : Nat) (cap0 : Nat) (K : Value → Hp → Prop) : Prop :=
 HC P math_bits_TrailingZeros.n #[.int .u64 (IntKind.wrap .u64 n1)] h8 (fun v7 h9 => (∃ n9 : Int, (v7 = (.int .i64 n9)) ∧ (∃ I2 : List Value → Hp → Prop, (∃ x2 : List Value → Hp → Nat, (internal_strconv_formatBits.k14 I2 n0 h9 n1 b2 n9 x2 b0 b1 a0 len0 cap0 K)))))
def internal_strconv_formatBits.k16 (n0 : Int) (h8 : Hp) (n1 : Int) (b2 : Nat) (b0 : Bool) (b1 : Bool) (a0 : Option Addr) (len0 : Nat) (cap0 : Nat) (K : Value → Hp → Prop) : Prop :=
 (∃ I3 : List Value → Hp → Prop, (∃ x3 : List Value → Hp → Nat, (I3 [.int .i64 65, .int .u64 n0] h8) ∧ (∀ h11 : Hp, (∀ n12 : Int, (∀ n13 : Int, (I3 [.int .i64 n12, .int .u64 n13] h11 → bcase (decide ((IntKind.wrap .u64 n1) ≤ n13))
 ((internal_strconv_formatBits.k10 n1 n13 n12 h11 b2 I3 x3))
 ((internal_strconv_formatBits.k7 n13 n12 h11 b2 b0 b1 a0 len0 cap0 K))))))))
def internal_strconv_formatBits.k17 (b7 : Bool) (n1 : Int) (h8 : Hp) (n0 : Int) (b2 : Nat) (b0 : Bool) (b1 : Bool) (a0 : Option Addr) (len0 : Nat) (cap0 : Nat) (K : Value → Hp → Prop) : Prop :=
 bcase (b7)
 ((internal_strconv_formatBits.k15 n1 h8 n0 b2 b0 b1 a0 len0 cap0 K))
 ((internal_strconv_formatBits.k16 n0 h8 n1 b2 b0 b1 a0 len0 cap0 K))
def internal_strconv_formatBits.k18 (n1 : Int) (h : Hp) (b2 : Nat) (n0 : Int) (b0 : Bool) (b1 : Bool) (a0 : Option Addr) (len0 : Nat) (cap0 : Nat) (K : Value → Hp → Prop) : Prop :=
 HC P internal_strconv_isPowerOfTwo.n #[.int .i64 n1] (h.put b2 (.cells #[.int .u8 0, .int .u8 0, .int .u8 0, .int .u8 0, .int .u8 0, .int .u8 0, .int .u8 0, .int .u8 0, .int .u8 0, .int .u8 0, .int .u8 0, .int .u8 0, .int .u8 0, .int .u8 0, .int .u8 0, .int .u8 0, .int .u8 0, .int .u8 0, .int .u8 0, .int .u8 0, .int .u8 0, .int .u8 0, .int .u8 0, .int .u8 0, .int .u8 0, .int .u8 0, .int .u8 0, .int .u8 0, .int .u8 0, .int .u8 0, .int .u8 0, .int .u8 0, .int .u8 0, .int .u8 0, .int .u8 0, .int .u8 0, .int .u8 0, .int .u8 0, .int .u8 0, .int .u8 0, .int .u8 0, .int .u8 0, .int .u8 0, .int .u8 0, .int .u8 0, .int .u8 0, .int .u8 0, .int .u8 0, .int .u8 0, .int .u8 0, .int .u8 0, .int .u8 0, .int .u8 0, .int .u8 0, .int .u8 0, .int .u8 0, .int .u8 0, .int .u8 0, .int .u8 0, .int .u8 0, .int .u8 0, .int .u8 0, .int .u8 0, .int .u8 0, .int .u8 0] T.t65_uint8 (0, 0))) (fun v6 h8 => (∃ b7 : Bool, (v6 = (.bool b7)) ∧ (internal_strconv_formatBits.k17 b7 n1 h8 n0 b2 b0 b1 a0 len0 cap0 K)))
def internal_strconv_formatBits.k19 (h : Hp) (b0 : Bool) (n1 : Int) (n0 : Int) (b1 : Bool) (a0 : Option Addr) (len0 : Nat) (cap0 : Nat) (K : Value → Hp → Prop) : Prop :=
 (∀ b2 : Nat, ((h b2) = none → bcase (b0)
 ((internal_strconv_formatBits.k13 n1 h b2 n0 b0 b1 a0 len0 cap0 K))
 ((internal_strconv_formatBits.k18 n1 h b2 n0 b0 b1 a0 len0 cap0 K))))
def internal_strconv_formatBits.k20 (n1 : Int) (h : Hp) (b0 : Bool) (n0 : Int) (b1 : Bool) (a0 : Option Addr) (len0 : Nat) (cap0 : Nat) (K : Value → Hp → Prop) : Prop :=
 bcase (decide ((36 : Int) < n1))
 (False)
 ((internal_strconv_formatBits.k19 h b0 n1 n0 b1 a0 len0 cap0 K))
def internal_strconv_formatBits.k21 (n1 : Int) (h : Hp) (b0 : Bool) (n0 : Int) (b1 : Bool) (a0 : Option Addr) (len0 : Nat) (cap0 : Nat) (K : Value → Hp → Prop) : Prop :=
 bcase ((n1 == 10))
 (False)
 ((internal_strconv_formatBits.k20 n1 h b0 n0 b1 a0 len0 cap0 K))
def internal_strconv_formatBits (a0 : Option Addr) (len0 : Nat) (cap0 : Nat) (n0 : Int) (n1 : Int) (b0 : Bool) (b1 : Bool) (K : Value → Hp → Prop) (h : Hp) : Prop :=
 bcase (decide (n1 < 2))
 (False)
 ((internal_strconv_formatBits.k21 n1 h b0 n0 b1 a0 len0 cap0 K))
theorem internal_strconv_formatBits.hc {a0 : Option Addr} {len0 : Nat} {cap0 : Nat} {n0 : Int} {n1 : Int} {b0 : Bool} {b1 : Bool} {K : Value → Hp → Prop} {h : Hp} (hh : internal_strconv_formatBits a0 len0 cap0 n0 n1 b0 b1 K h) : HC P internal_strconv_formatBits.n #[.slice a0 len0 cap0, .int .u64 n0, .int .i64 n1, .bool b0, .bool b1] h K :=
  HC_of_den (fn := Go.Proofs.Tryd.f77) (args := [.slice a0 len0 cap0, .int .u64 n0, .int .i64 n1, .bool b0, .bool b1]) Go.Proofs.Tryd.func77 rfl (Nat.le_of_ble_eq_true (by kernel_rfl)) (den_cast hh (by kernel_rfl))

def internal_strconv_isPowerOfTwo (n0 : Int) (K : Value → Hp → Prop) (h : Hp) : Prop :=
 K (.bool ((bits .and .i64 n0 (IntKind.wrap .i64 (n0 - 1))) == 0)) h
theorem internal_strconv_isPowerOfTwo.hc {n0 : Int} {K : Value → Hp → Prop} {h : Hp} (hh : internal_strconv_isPowerOfTwo n0 K h) : HC P internal_strconv_isPowerOfTwo.n #[.int .i64 n0] h K :=
  HC_of_den (fn := Go.Proofs.Tryd.f86) (args := [.int .i64 n0]) Go.Proofs.Tryd.func86 rfl (Nat.le_of_ble_eq_true (by kernel_rfl)) (den_cast hh (by kernel_rfl))

def math_bits_TrailingZeros (n0 : Int) (K : Value → Hp → Prop) (h : Hp) : Prop :=
 HC P math_bits_TrailingZeros64.n #[.int .u64 n0] h (fun v0 h0 => (∃ n1 : Int, (v0 = (.int .i64 n1)) ∧ K (.int .i64 n1) h0))
theorem math_bits_TrailingZeros.hc {n0 : Int} {K : Value → Hp → Prop} {h : Hp} (hh : math_bits_TrailingZeros n0 K h) : HC P math_bits_TrailingZeros.n #[.int .u64 n0] h K :=
  HC_of_den (fn := Go.Proofs.Tryd.f87) (args := [.int .u64 n0]) Go.Proofs.Tryd.func87 rfl (Nat.le_of_ble_eq_true (by kernel_rfl)) (den_cast hh (by kernel_rfl))

def math_bits_TrailingZeros64.k0 (n0 : Int) (h : Hp) (K : Value → Hp → Prop) : Prop :=
 ((0 : Int) ≤ 58) ∧ ((0 : Int) ≤ (Int.fdiv (IntKind.wrap .u64 ((bits .and .u64 n0 (IntKind.wrap .u64 (0 - n0))) * 285870213051353865)) (2 ^ Min.min ((58 : Int).toNat) 64))) ∧ ((Int.fdiv (IntKind.wrap .u64 ((bits .and .u64 n0 (IntKind.wrap .u64 (0 - n0))) * 285870213051353865)) (2 ^ Min.min ((58 : Int).toNat) 64)) < (64 : Int)) ∧ (∃ n1 : Int, ((h.cell? ((⟨3, 0, none⟩ : Addr).add ((Int.fdiv (IntKind.wrap .u64 ((bits .and .u64 n0 (IntKind.wrap .u64 (0 - n0))) * 285870213051353865)) (2 ^ Min.min ((58 : Int).toNat) 64)).toNat * 1))) = (some (.int .u8 n1))) ∧ K (.int .i64 (IntKind.wrap .i64 n1)) h)
def math_bits_TrailingZeros64 (n0 : Int) (K : Value → Hp → Prop) (h : Hp) : Prop :=
 bcase ((n0 == 0))
 (K (.int .i64 64) h)
 ((math_bits_TrailingZeros64.k0 n0 h K))
theorem math_bits_TrailingZeros64.hc {n0 : Int} {K : Value → Hp → Prop} {h : Hp} (hh : math_bits_TrailingZeros64 n0 K h) : HC P math_bits_TrailingZeros64.n #[.int .u64 n0] h K :=
  HC_of_den (fn := Go.Proofs.Tryd.f90) (args := [.int .u64 n0]) Go.Proofs.Tryd.func90 rfl (Nat.le_of_ble_eq_true (by kernel_rfl)) (den_cast hh (by kernel_rfl))

end
end Go.Den.Mon
end

section
set_option linter.unusedVariables false
set_option maxRecDepth 100000
namespace Go.Den.Mon
open Go Go.Den

noncomputable section

def strconv_FormatUint (n0 : Int) (n1 : Int) (K : Value → Hp → Prop) (h : Hp) : Prop :=
 HC P internal_strconv_FormatUint.n #[.int .u64 n0, .int .i64 n1] h (fun v0 h0 => (∃ s0 : ByteArray, (v0 = (.string s0)) ∧ K (.string s0) h0))
theorem strconv_FormatUint.hc {n0 : Int} {n1 : Int} {K : Value → Hp → Prop} {h : Hp} (hh : strconv_FormatUint n0 n1 K h) : HC P strconv_FormatUint.n #[.int .u64 n0, .int .i64 n1] h K :=
  HC_of_den (fn := Go.Proofs.Tryd.f52) (args := [.int .u64 n0, .int .i64 n1]) Go.Proofs.Tryd.func52 rfl (Nat.le_of_ble_eq_true (by kernel_rfl)) (den_cast hh (by kernel_rfl))

def internal_strconv_FormatUint.k0 (n0 : Int) (h : Hp) (K : Value → Hp → Prop) : Prop :=
 HC P internal_strconv_small.n #[.int .i64 (IntKind.wrap .i64 n0)] h (fun v0 h0 => (∃ s0 : ByteArray, (v0 = (.string s0)) ∧ K (.string s0) h0))
def internal_strconv_FormatUint.k1 (n2 : Int) (b0 : Nat) (K : Value → Hp → Prop) (h2 : Hp) : Prop :=
 ((0 : Int) ≤ n2) ∧ (n2 ≤ (24 : Int)) ∧ wpSem P (convDark T.sl_uint8 T.string (.slice (Den.offA (some ⟨b0, 0, none⟩) 24 0 1) (n2.toNat - 0) 24)) (fun v3 h3 => (∃ s1 : ByteArray, (v3 = (.string s1)) ∧ K (.string s1) h3)) h2
def internal_strconv_FormatUint.k2 (n2 : Int) (b0 : Nat) (n0 : Int) (h1 : Hp) (K : Value → Hp → Prop) : Prop :=
 ((0 : Int) ≤ n2) ∧ (n2 ≤ (24 : Int)) ∧ HC P internal_strconv_formatBase10.n #[.slice (Den.offA (some ⟨b0, 0, none⟩) 24 0 1) (n2.toNat - 0) 24, .int .u64 n0] h1 (fun v2 h2 => (internal_strconv_FormatUint.k1 n2 b0 K h2))
def internal_strconv_FormatUint.k3 (h : Hp) (n0 : Int) (K : Value → Hp → Prop) : Prop :=
 (∀ b0 : Nat, ((h b0) = none → HC P internal_strconv_numDigits.n #[.int .u64 n0] (h.put b0 (.cells #[.int .u8 0, .int .u8 0, .int .u8 0, .int .u8 0, .int .u8 0, .int .u8 0, .int .u8 0, .int .u8 0, .int .u8 0, .int .u8 0, .int .u8 0, .int .u8 0, .int .u8 0, .int .u8 0, .int .u8 0, .int .u8 0, .int .u8 0, .int .u8 0, .int .u8 0, .int .u8 0, .int .u8 0, .int .u8 0, .int .u8 0, .int .u8 0] T.t24_uint8 (0, 0))) (fun v1 h1 => (∃ n2 : Int, (v1 = (.int .i64 n2)) ∧ (internal_strconv_FormatUint.k2 n2 b0 n0 h1 K)))))
def internal_strconv_FormatUint.k4 (n0 : Int) (h : Hp) (K : Value → Hp → Prop) : Prop :=
 bcase (decide (n0 < 100))
 ((internal_strconv_FormatUint.k0 n0 h K))
 ((internal_strconv_FormatUint.k3 h n0 K))
def internal_strconv_FormatUint.k5 (n0 : Int) (n1 : Int) (h : Hp) (K : Value → Hp → Prop) : Prop :=
 HC P internal_strconv_formatBits.n #[.slice none 0 0, .int .u64 n0, .int .i64 n1, .bool Bool.false, .bool Bool.false] h (fun v4 h4 => (∃ a0 : Option Addr, (∃ n3 : Nat, (∃ c0 : Nat, (∃ s2 : ByteArray, (v4 = (.tuple #[.slice a0 n3 c0, .string s2])) ∧ K (.string s2) h4)))))
def internal_strconv_FormatUint (n0 : Int) (n1 : Int) (K : Value → Hp → Prop) (h : Hp) : Prop :=
 bcase ((n1 == 10))
 ((internal_strconv_FormatUint.k4 n0 h K))
 ((internal_strconv_FormatUint.k5 n0 n1 h K))
theorem internal_strconv_FormatUint.hc {n0 : Int} {n1 : Int} {K : Value → Hp → Prop} {h : Hp} (hh : internal_strconv_FormatUint n0 n1 K h) : HC P internal_strconv_FormatUint.n #[.int .u64 n0, .int .i64 n1] h K :=
  HC_of_den (fn := Go.Proofs.Tryd.f63) (args := [.int .u64 n0, .int .i64 n1]) Go.Proofs.Tryd.func63 rfl (Nat.le_of_ble_eq_true (by kernel_rfl)) (den_cast hh (by kernel_rfl))

end
end Go.Den.Mon
end

section
set_option linter.unusedVariables false
set_option maxRecDepth 100000
namespace Go.Den.Mon
open Go Go.Den
variable {h : Hp} {K : Value → Hp → Prop}
/-- What the package-level variables of the library hold. -/
structure Env (h : Hp) : Prop where
  tz : h.cell? ⟨3, 15, none⟩ = some (.int .u8 4)
theorem cell_stepH {h h' : Hp} {o : List Nat} (s : Step [] h o h') {a : Addr} {v : Value} (hc : h.cell? a = some v) : h'.cell? a = some v := by
  rw [← hc]
  refine cell_block rfl (s.keep _ (fun e => ?_) (by simp))
  unfold Hp.cell? at hc
  rw [e] at hc; cases hc
theorem Env.step {h h' : Hp} {o : List Nat} (e : Env h) (s : Step [] h o h') : Env h' := by
  obtain ⟨b⟩ := e
  exact ⟨cell_stepH s b⟩
theorem repeat_spec {c : Nat} (hc : c ≤ 1000) (hk : ∀ h', Step [] h [] h' → K (.string ⟨(Lib.repeatL [48] c).toArray⟩) h') : HC P strings_Repeat.n #[.string (⟨#[48]⟩ : ByteArray), .int .i64 (c : Int)] h K :=
  HC_of_calls fun w hw => (Go.Proofs.Tryd.strings_Repeat ⟨#[48]⟩ c w (by omega) (by show 1 * c ≤ _; omega)).mono fun e w' ⟨he, hb⟩ => ⟨_, he, hb, hk⟩
/-! ### Digits -/
/-- The last so many digits. -/
def hf (n : Nat) : Nat → List UInt8
  | 0 => []
  | k + 1 => hexc (n / 16 ^ k % 16) :: hf n k
theorem hf_len {n : Nat} : ∀ {k : Nat}, (hf n k).length = k
  | 0 => rfl
  | k + 1 => by simp [hf, hf_len (n := n) (k := k)]
theorem repL {c : Nat} {b : UInt8} : Lib.repeatL [b] c = List.replicate c b := by
  induction c with
  | zero => rfl
  | succ c ih => rw [List.replicate_succ, ← ih]; rfl
theorem hf_pad {n d : Nat} (hn : n < 16 ^ d) : ∀ {e : Nat}, hf n (d + e) = List.replicate e (48 : UInt8) ++ hf n d
  | 0 => rfl
  | e + 1 => by
    show hexc (n / 16 ^ (d + e) % 16) :: hf n (d + e) = _
    have h1 : 16 ^ d ≤ 16 ^ (d + e) := Nat.pow_le_pow_right (by omega) (by omega)
    have : n / 16 ^ (d + e) = 0 := Nat.div_eq_of_lt (by omega)
    rw [this, hf_pad hn, List.replicate_succ]
    rfl
theorem and15 {m : Nat} (hm : m < 18446744073709551616) : bits .and .u64 (m : Int) 15 = ((m % 16 : Nat) : Int) := by
  have := bits_and_u64_nat m 15 hm (by omega)
  rw [show m &&& 15 = m % 16 from Nat.and_two_pow_sub_one_eq_mod m 4] at this
  exact this
theorem fdiv_n {m : Nat} : Int.fdiv (m : Int) (2 ^ Min.min ((4 : Int).toNat) 64) = ((m / 16 : Nat) : Int) := by
  show Int.fdiv (m : Int) ((16 : Nat) : Int) = _
  rw [Int.fdiv_eq_ediv_of_nonneg _ (by omega)]
  rfl
abbrev alph : ByteArray := ⟨#[48, 49, 50, 51, 52, 53, 54, 55, 56, 57, 97, 98, 99, 100, 101, 102, 103, 104, 105, 106, 107, 108, 109, 110, 111, 112, 113, 114, 115, 116, 117, 118, 119, 120, 121, 122]⟩
theorem alphs : ((List.range 16).all fun d => alph[d]? == some (hexc d)) = true := by decide +kernel
theorem alph_get {d : Nat} (hd : d < 16) : alph[d]? = some (hexc d) := by simpa using List.all_eq_true.1 alphs d (List.mem_range.2 hd)
theorem tz_spec (en : Env h) (hk : K (.int .i64 4) h) : HC P math_bits_TrailingZeros.n #[.int .u64 16] h K := by
  refine math_bits_TrailingZeros.hc ?_
  unfold math_bits_TrailingZeros
  refine math_bits_TrailingZeros64.hc ?_
  unfold math_bits_TrailingZeros64
  refine bcF rfl ?_
  unfold math_bits_TrailingZeros64.k0
  have e : (Int.fdiv (IntKind.wrap .u64 ((bits .and .u64 16 (IntKind.wrap .u64 (0 - 16))) * 285870213051353865)) (2 ^ Min.min ((58 : Int).toNat) 64)) = 15 := by decide +kernel
  rw [e]
  refine ⟨by omega, by omega, by omega, 4, ?_, _, rfl, ?_⟩
  · show h.cell? ((⟨3, 0, none⟩ : Addr).add 15) = _
    rw [Addr.add_mk]; exact en.tz
  · rw [show IntKind.wrap .i64 4 = 4 from by decide +kernel]; exact hk
end Go.Den.Mon
end

section
set_option linter.unusedVariables false
set_option maxRecDepth 100000
namespace Go.Den.Mon
open Go Go.Den
variable {h : Hp} {K : Value → Hp → Prop}
theorem fb_set {h2 : Hp} {b2 j n : Nat} {pre : List Value} (hb : h2 b2 = some (.cells (pre ++ bvs (hf n j)).toArray T.t65_uint8 (0, 0))) (hp : pre.length = 65 - j) (hj : j < 65) :
    ∃ pre', pre'.length = 64 - j ∧ (∃ u, h2.cell? ⟨b2, 64 - j, none⟩ = some u) ∧ h2.frozen? ⟨b2, 64 - j, none⟩ = false ∧
      (h2.setCell ⟨b2, 64 - j, none⟩ (.int .u8 ((hexc (n / 16 ^ j % 16)).toNat : Int))) b2 = some (.cells (pre' ++ bvs (hf n (j + 1))).toArray T.t65_uint8 (0, 0)) := by
  obtain ⟨pre', u, rfl⟩ : ∃ pre' u, pre = pre' ++ [u] := ⟨pre.dropLast, pre.getLast (List.ne_nil_of_length_pos (by omega)), (List.dropLast_concat_getLast _).symm⟩
  have hp' : pre'.length = 64 - j := by simp at hp; omega
  refine ⟨pre', hp', ⟨u, ?_⟩, frozen_of hb, ?_⟩
  · rw [cell_of hb, List.getElem?_toArray, ← hp']
    simp
  · rw [setCell_blk hb]
    have := set_split (pre := pre') (post := bvs (hf n j)) (u := u) (v := Value.int .u8 ((hexc (n / 16 ^ j % 16)).toNat : Int)) hp'
    simp only [List.append_assoc, List.singleton_append]
    rw [this]
    rfl
theorem formatBits_spec (en : Env h) {n : Nat} (hn : n < 18446744073709551616) (hk : ∀ d h', 1 ≤ d → d ≤ 16 → n < 16 ^ d → Step [] h [] h' → K (.tuple #[.slice none 0 0, .string ⟨(hf n d).toArray⟩]) h') :
    HC P internal_strconv_formatBits.n #[.slice none 0 0, .int .u64 (n : Int), .int .i64 16, .bool false, .bool false] h K := by
  refine internal_strconv_formatBits.hc ?_
  unfold internal_strconv_formatBits
  refine bcF rfl ?_
  unfold internal_strconv_formatBits.k21
  refine bcF rfl ?_
  unfold internal_strconv_formatBits.k20
  refine bcF rfl ?_
  unfold internal_strconv_formatBits.k19
  intro b2 hb2
  refine bcF rfl ?_
  unfold internal_strconv_formatBits.k18
  refine internal_strconv_isPowerOfTwo.hc ?_
  unfold internal_strconv_isPowerOfTwo
  refine ⟨_, rfl, ?_⟩
  unfold internal_strconv_formatBits.k17
  refine bcT (by decide +kernel) ?_
  unfold internal_strconv_formatBits.k15
  rw [show IntKind.wrap .u64 16 = 16 from by decide +kernel]
  refine tz_spec (en.step (Step.put (.inr hb2))) ⟨4, rfl, ?_⟩
  obtain ⟨I0, hI0⟩ : ∃ I0 : List Value → Hp → Prop, I0 = fun vs hh => ∃ (j : Nat) (pre : List Value), vs = [.int .i64 ((65 - j : Nat) : Int), .int .u64 ((n / 16 ^ j : Nat) : Int)] ∧ j ≤ 15 ∧ pre.length = 65 - j ∧ hh b2 = some (.cells (pre ++ bvs (hf n j)).toArray T.t65_uint8 (0, 0)) ∧ Step [] h [b2] hh := ⟨_, rfl⟩
  obtain ⟨x0, hx0⟩ : ∃ x0 : List Value → Hp → Nat, x0 = fun vs _ => match vs with | [_, .int _ i] => i.toNat | _ => 0 := ⟨_, rfl⟩
  refine ⟨I0, x0, ?_⟩
  unfold internal_strconv_formatBits.k14
  refine ⟨?_, ?_⟩
  · rw [hI0]
    refine ⟨0, List.replicate 65 (.int .u8 0), by simp, by omega, by simp, by rw [put_self]; rfl, Step.new hb2⟩
  intro h2 n3 n4 hin
  rw [hI0] at hin
  obtain ⟨j, pre, he, hj, hp, hb, st⟩ := hin
  have e1 : n3 = ((65 - j : Nat) : Int) ∧ n4 = ((n / 16 ^ j : Nat) : Int) := by cases he; exact ⟨rfl, rfl⟩
  clear he
  obtain ⟨rfl, rfl⟩ := e1
  obtain ⟨pre', p1, p2, p3, p4⟩ := fb_set hb hp (by omega)
  have hw : IntKind.wrap .i64 (((65 - j : Nat) : Int) - 1) = ((64 - j : Nat) : Int) := wrapN (by omega) (by omega)
  rw [show IntKind.wrap .u64 16 = 16 from by decide +kernel]
  have hle : n / 16 ^ j ≤ n := Nat.div_le_self _ _
  refine bcase_intro (fun hc => ?_) fun hc => ?_
  · have hc : 16 ≤ n / 16 ^ j := by have := of_decide_eq_true hc; omega
    have hs : n / 16 ^ j / 16 = n / 16 ^ (j + 1) := by rw [Nat.div_div_eq_div_mul, Nat.pow_succ]
    unfold internal_strconv_formatBits.k0
    rw [show IntKind.wrap .u64 (IntKind.wrap .u64 16 - 1) = 15 from by decide +kernel, show IntKind.wrap .u64 4 = 4 from by decide +kernel, and15 (by omega), fdiv_n, hw, hs]
    simp only [Int.toNat_natCast, Nat.mul_one, Addr.add_mk, Nat.zero_add]
    have hj15 : j + 1 ≤ 15 := by
      rcases Nat.lt_or_ge j 15 with q | q
      · omega
      · obtain rfl : j = 15 := by omega
        have : n / 16 ^ 15 < 16 := Nat.div_lt_of_lt_mul (by rw [← Nat.pow_succ]; exact hn)
        omega
    refine ⟨by omega, hexc (n / 16 ^ j % 16), alph_get (by omega), by omega, by omega, p2, p3, by omega, ?_, ?_⟩
    · rw [hI0]
      exact ⟨j + 1, pre', by rw [show 65 - (j + 1) = 64 - j by omega], hj15, by omega, p4, st.trans (Step.setCell hb (by simp))⟩
    · rw [hx0]
      show (((n / 16 ^ (j + 1) : Nat)) : Int).toNat < ((n / 16 ^ j : Nat) : Int).toNat
      rw [← hs]; omega
  · have hc : n / 16 ^ j < 16 := by have := of_decide_eq_false hc; omega
    have hm : n / 16 ^ j % 16 = n / 16 ^ j := Nat.mod_eq_of_lt hc
    unfold internal_strconv_formatBits.k7
    rw [hw]
    simp only [Int.toNat_natCast, Nat.mul_one, Addr.add_mk, Nat.zero_add]
    refine ⟨by omega, hexc (n / 16 ^ j), alph_get hc, by omega, by omega, p2, p3, bcF rfl ?_⟩
    unfold internal_strconv_formatBits.k6
    refine bcF rfl ?_
    unfold internal_strconv_formatBits.k5
    rw [hw]
    simp only [Int.toNat_natCast, Nat.mul_one, Addr.add_mk, Nat.zero_add]
    rw [hm] at p4
    refine ⟨by omega, by omega, ?_⟩
    have S := st.trans (Step.setCell (o := 64 - j) (v := .int .u8 ((hexc (n / 16 ^ j)).toNat : Int)) hb (by simp))
    have full : SrcAt (h2.setCell ⟨b2, 64 - j, none⟩ (.int .u8 ((hexc (n / 16 ^ j)).toNat : Int))) 1 (.slice (some ⟨b2, 0, none⟩) 65 65) 65 (pre' ++ bvs (hf n (j + 1))) := by
      refine .some ⟨by simp [p1, bvs_len, hf_len]; omega, fun i v hv => ?_⟩
      rw [Addr.add_mk, cell_of p4, Nat.zero_add]; exact hv
    have dr := src_drop (c' := 65 - (64 - j)) full (i := 64 - j) (by omega) (by omega)
    rw [Nat.mul_one, List.drop_left' p1] at dr
    refine bytesStr_wp dr ⟨_, rfl, hk (j + 1) _ (by omega) (by omega) ?_ S.forget0⟩
    have : 0 < 16 ^ j := Nat.pow_pos (by omega)
    rw [Nat.pow_succ]
    have := Nat.lt_mul_of_div_lt hc this
    omega
theorem fmt_spec (en : Env h) {n : Nat} (hn : n < 18446744073709551616) (hk : ∀ d h', 1 ≤ d → d ≤ 16 → n < 16 ^ d → Step [] h [] h' → K (.string ⟨(hf n d).toArray⟩) h') : HC P strconv_FormatUint.n #[.int .u64 (n : Int), .int .i64 16] h K := by
  refine strconv_FormatUint.hc ?_
  unfold strconv_FormatUint
  refine internal_strconv_FormatUint.hc ?_
  unfold internal_strconv_FormatUint
  refine bcF rfl ?_
  unfold internal_strconv_FormatUint.k5
  exact formatBits_spec en hn fun d h' h1 h2 h3 s => ⟨_, _, _, _, rfl, _, rfl, hk d h' h1 h2 h3 s⟩
end Go.Den.Mon
end

