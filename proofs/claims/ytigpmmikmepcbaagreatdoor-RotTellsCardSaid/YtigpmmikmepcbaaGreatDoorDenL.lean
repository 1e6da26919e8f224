import Derived.Test.YtigpmmikmepcbaaGreatDoorDenM
import Derived.WalkKit
import Derived.ProofKit
import Derived.OpenShut
import Derived.Carry
import Derived.ChangeOld
import Derived.Lib.SmallJoins
/- Texts that the claim needs, joined. -/
section
set_option linter.unusedVariables false
namespace Go.Den
open Go Go.ChangeShapes Go.WideShapes Go.ChangeAt Go.RowKit
theorem calls_of_HC {P : Program} {f : FuncId} {args : Array Value} {w : World} (h : HC P f args (hp w) fun v h' => v = .bool true ∧ Step [] (hp w) [] h') :
    Calls P f args w fun e w' => e = .returned (.bool true) ∧ Below w.heap.size w w' := by
  refine (callsIn_wide.1 (h w rfl)).mono ?_
  rintro e w' ⟨v, rfl, ha, rfl, st⟩
  refine ⟨rfl, ha.os, ha.tape, ha.output, ha.size, fun k hk => ?_⟩
  have hs : w.heap[k]? = some w.heap[k] := Array.getElem?_eq_getElem hk
  rw [hs]
  cases hseen : Obj.seen w.heap[k] with
  | false => exact ha.hid k _ hs hseen
  | true =>
    have h1 : hp w k = some w.heap[k] := hp_of hs hseen
    have h2 := st.keep k (by rw [h1]; simp) (by simp)
    rw [h1] at h2
    exact (hp_some h2).1
theorem trodAll_below {H : Type} {enc : TypeId × Value → H} {P : Program} {W W' : World} {sp : Nat → Bool} (hl : laidOutB P = true) (hb : Below W.heap.size W W') :
    ∀ {ts : List TypeId} {vs : List Value} {ds : List (DataW H)} {ps : List MemPlace}, (∀ t ∈ ts, P.readableRec t = true ∧ t < P.types.size) → DataW.TrodAll enc P W 0 (fun _ => true) true ts vs ds ps →
      (∀ p ∈ ps, p.block < W.heap.size) → (∀ p ∈ ps, sp p.block = true) → DataW.TrodAll enc P W' 0 sp true ts vs ds ps
  | [], [], [], _, _, h, _, _ => h
  | _ :: _, _ :: _, _ :: _, _, hT, ⟨p, q, h1, h2, e⟩, hlt, hs =>
    ⟨p, q, WideElems.Trod_stays hl (hT _ (by simp)).1 (hT _ (by simp)).2 h1 (fun x hx => hb.same (hlt x (by rw [e]; simp [hx]))) (fun x hx => hs x (by rw [e]; simp [hx])),
      trodAll_below hl hb (fun t ht => hT t (by simp [ht])) h2 (fun x hx => hlt x (by rw [e]; simp [hx])) (fun x hx => hs x (by rw [e]; simp [hx])), e⟩
theorem post_of_below {H : Type} {enc : TypeId × Value → H} {P : Program} {f : Func} {s : ChangeSpec} {apart fresh handsOn again : Bool} {W W' : World} {args : Array Value} {v : Value} {ds gs : List (DataW H)} {before : List MemPlace}
    (hl : laidOutB P = true) (hT : ∀ t ∈ f.params.toList, P.readableRec t = true ∧ t < P.types.size) (hnv : s.vars = [])
    (hW : DataW.Whole enc P f.params.toList s.vars apart W args.toList ds gs before) (hb : Below W.heap.size W W')
    (hres : ∀ (b : Nat) (sp : Nat → Bool) (hd : Bool), DataW.TrodAll enc P W' b sp hd f.resultTypes.toList (v.resultList f.resultTypes.size) (s.fn H (ds ++ gs)).results [])
    (hargs : (s.fn H (ds ++ gs)).args = ds) (hvars : (s.fn H (ds ++ gs)).vars = [])
    (hok : ∀ (j : Nat) (t : TypeId) (r : Value), f.resultTypes[j]? = some t → (v.resultList f.resultTypes.size)[j]? = some r → Value.okWide P W' .any 0 t r) :
    s.post enc P f apart fresh handsOn again W args v W' := by
  have hlt : ∀ p ∈ before, p.block < W.heap.size := fun p hp => hW.lt p hp
  have hold : ∀ p ∈ before, (fun b => decide (b < W.heap.size)) p.block = true := fun p hp => by simpa using hlt p hp
  have hW0 := hW
  obtain ⟨p, q, hA, hV, hpq, hz, hn⟩ := hW
  rw [hnv] at hV
  have hg : gs = [] ∧ q = [] := by
    cases gs with
    | nil => exact ⟨rfl, hV⟩
    | cons _ _ => exact hV.elim
  obtain ⟨rfl, rfl⟩ := hg
  have hbp : before = p := by rw [hpq]; simp
  have A : ∀ sp : Nat → Bool, (∀ x ∈ before, sp x.block = true) → DataW.TrodAll enc P W' 0 sp true f.params.toList args.toList (s.fn H (ds ++ [])).args before := by
    intro sp hs
    rw [hargs, hbp]
    rw [hbp] at hs hlt
    exact trodAll_below hl hb hT hA hlt hs
  have V : ∀ sp : Nat → Bool, DataW.TrodVars enc P W' sp s.vars (s.fn H (ds ++ [])).vars [] := by
    intro sp; rw [hvars, hnv]; rfl
  refine ⟨ds, [], before, [], before, [], hW0, hres _ _ _, A _ hold, V _, World.keptBut_mono (fun x hx => ⟨hx, Or.inr (by simpa using hx)⟩) (hb.frame _), fun _ => ?_⟩
  refine ⟨hok, _, _, ([] ++ before) ++ [], ⟨[] ++ before, [], trodAll_append (A _ (fun _ _ => rfl)) (hres _ _ _), V _, rfl, ?_, ?_⟩, ?_⟩
  · intro b off hx
    have hx : MemPlace.cell b off ∈ before := by simpa using hx
    rw [hb.frozen (hlt _ hx)]
    exact hz b off hx
  · intro ha
    simpa using hn ha
  · intro x hx _
    simpa using hx
end Go.Den
end

