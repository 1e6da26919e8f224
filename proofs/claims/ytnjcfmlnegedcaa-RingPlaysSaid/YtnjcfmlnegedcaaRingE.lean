import Derived.Test.YtnjcfmlnegedcaaRingD
/- The laws of ring. -/
set_option linter.unusedVariables false
namespace Go.Den.Ring
open Go Go.Den

theorem awake_spec {h : Hp} {K : Value → Hp → Prop} (hk : ∀ h', Step [] h [] h' → K (.bool true) h') : HC P law14_awake.n #[] h K := by
  refine law14_awake.hc ?_
  unfold law14_awake
  refine New_spec (fun hx => by omega) fun b m h1 hm hr1 st1 => ⟨_, _, rfl, bcase_intro (fun c => by simp at c) fun _ => ?_⟩
  obtain rfl : m = 2 := by omega
  refine Put_some hr1 (by simp) fun o2 h2 hr2 st2 => ⟨_, rfl, bcase_intro (fun c => by simp at c) fun _ => ?_⟩
  refine Put_some hr2 (by simp) fun o3 h3 hr3 st3 => ⟨_, rfl, bcase_intro (fun c => by simp at c) fun _ => ?_⟩
  refine Put_full hr3 (by simp) ⟨_, rfl, bcase_intro (fun c => by simp at c) fun _ => ?_⟩
  refine Take_some hr3 fun h4 hr4 st4 => ⟨_, _, rfl, bcase_intro (fun _ => bcase_intro (fun _ => ?_) fun c => by simp at c) fun c => by simp at c⟩
  refine Put_some hr4 (by simp) fun o5 h5 hr5 st5 => ⟨_, rfl, bcase_intro (fun _ => ?_) fun c => by simp at c⟩
  refine row_spec hr5 fun a cap o6 h6 hs6 st6 => ⟨_, _, _, rfl, fun b0 hb0 => ?_⟩
  have e : (List.take (Int.toNat 9) ([1, 2].tail ++ [3])) = ([2, 3] : List Int) := rfl
  have s6 : IntsR (h6.put b0 (.cells #[.int .i64 2, .int .i64 3] T.int (0, 0))) a 2 [2, 3] := ints_r (hs6.keep fun k hk => put_ne (fun e => hs6.mem k hk (e ▸ hb0)))
  refine SameInts_spec (xs := [2, 3]) (ys := [2, 3]) (n := 2) s6 ⟨rfl, fun i x hx => ⟨_, rfl, ?_⟩⟩ (by omega) ⟨_, rfl, ?_⟩
  · rw [Addr.add_mk, cell_of put_self]
    match i, hx with
    | 0, hx => simp at hx; subst hx; rfl
    | 1, hx => simp at hx; subst hx; rfl
    | i + 2, hx => simp at hx
  · have st : Step [] h [b] h6 ∨ True := .inr trivial
    refine hk _ ?_
    have s1 : Step [] h o5 h5 := ((((st1.trans st2).trans st3).trans st4).trans st5)
    have s2 : Step [] h [] h6 := (s1.trans (st6.weak (by simp) (p' := o5) fun k hk => .inr (.inl hk))).weak (by simp) (by simp)
    exact s2.trans (Step.put (.inr hb0))

theorem All_1_nil {h : Hp} {fb l : Nat} {K : Value → Hp → Prop} (hf : h.cell? ⟨fb, 0, none⟩ = some (.pointer none)) (hk : K (.tuple #[]) h) :
    HC P ring_Ring_All_1.n #[.func (.yield l) #[] #[], .pointer (some ⟨fb, 0, none⟩)] h K := by
  refine ring_Ring_All_1.hc ?_
  unfold ring_Ring_All_1
  simp only [someD_some]
  refine ⟨_, hf, now_nil ⟨_, _, _, rfl, fun vs h' => vs = [.int .i64 0] ∧ h' = h, fun _ _ => 0, ⟨rfl, rfl⟩, ?_⟩⟩
  rintro h1 n ⟨he, rfl⟩
  cases he
  exact bcase_intro (fun hc => by simp at hc) fun _ => hk

theorem Back_1_nil {h : Hp} {fb l : Nat} {K : Value → Hp → Prop} (hf : h.cell? ⟨fb, 0, none⟩ = some (.pointer none)) (hk : K (.tuple #[]) h) :
    HC P ring_Ring_Back_1.n #[.func (.yield l) #[] #[], .pointer (some ⟨fb, 0, none⟩)] h K := by
  refine ring_Ring_Back_1.hc ?_
  unfold ring_Ring_Back_1
  simp only [someD_some]
  refine ⟨_, hf, now_nil ⟨_, _, _, rfl, fun vs h' => vs = [.int .i64 (-1)] ∧ h' = h, fun _ _ => 0, ⟨by rw [wrap_id (by omega) (by omega)]; rfl, rfl⟩, ?_⟩⟩
  rintro h1 n ⟨he, rfl⟩
  cases he
  exact bcase_intro (fun hc => by simp at hc) fun _ => hk

theorem step_new0 {h : Hp} {b : Nat} {x : Obj} (hb : h b = none) : Step [] h [] (h.put b x) := Step.put (.inr hb)

theorem row_nil {h : Hp} {m : Int} {K : Value → Hp → Prop} (hk : ∀ h', Step [] h [] h' → K (.slice none 0 0) h') : HC P law14_row.n #[.pointer none, .int .i64 m] h K := by
  refine law14_row.hc ?_
  unfold law14_row
  intro b0 hb0 b1 hb1
  refine All_spec fun fb hfb => ⟨_, _, _, rfl, trueD_intro call_All_1 fun l R hl hbody => ?_⟩
  have nlf := (put_none hl).1
  have nl1 := (put_none (put_none hl).2).1
  have nf1 := (put_none hfb).1
  refine All_1_nil (by rw [cell_of (put_block put_self (Ne.symm nlf))]; rfl) (.inl ⟨put_self, none, 0, 0, ?_, hk _ ?_⟩)
  · rw [cell_of (put_block (put_block (put_block put_self (Ne.symm nf1)) (Ne.symm nl1)) (Ne.symm nl1))]; rfl
  · rw [put_put]
    exact (((step_new0 hb0).trans (step_new0 hb1)).trans (step_new0 hfb)).trans (step_new0 hl)

theorem back_nil {h : Hp} {m : Int} {K : Value → Hp → Prop} (hk : ∀ h', Step [] h [] h' → K (.slice none 0 0) h') : HC P law14_back.n #[.pointer none, .int .i64 m] h K := by
  refine law14_back.hc ?_
  unfold law14_back
  intro b0 hb0 b1 hb1
  refine Back_spec fun fb hfb => ⟨_, _, _, rfl, trueD_intro call_Back_1 fun l R hl hbody => ?_⟩
  have nlf := (put_none hl).1
  have nl1 := (put_none (put_none hl).2).1
  have nf1 := (put_none hfb).1
  refine Back_1_nil (by rw [cell_of (put_block put_self (Ne.symm nlf))]; rfl) (.inl ⟨put_self, none, 0, 0, ?_, hk _ ?_⟩)
  · rw [cell_of (put_block (put_block (put_block put_self (Ne.symm nf1)) (Ne.symm nl1)) (Ne.symm nl1))]; rfl
  · rw [put_put]
    exact (((step_new0 hb0).trans (step_new0 hb1)).trans (step_new0 hfb)).trans (step_new0 hl)

/-- What a law asks for: it answers true, and what was there stays as it was. -/
def Holds (h : Hp) : Value → Hp → Prop := fun v h' => v = .bool true ∧ Step [] h [] h'

theorem RingNil_holds {h : Hp} {x i : Int} : HC P law14_RingNil.n #[.int .i64 x, .int .i64 i] h (Holds h) := by
  refine law14_RingNil.hc ?_
  unfold law14_RingNil
  refine Take_nil ⟨_, _, rfl, At_nil ⟨_, _, rfl, Put_nil ⟨_, rfl, ?_⟩⟩⟩
  simp only [BEq.rfl, bcase_true]
  refine Len_nil ⟨_, rfl, ?_⟩
  simp only [BEq.rfl, bcase_true]
  refine row_nil fun h1 st1 => ⟨_, _, _, rfl, ?_⟩
  rw [show (((0 : Nat) : Int) == 0) = true from rfl]
  simp only [bcase_true]
  refine back_nil fun h2 st2 => ⟨_, _, _, rfl, ?_⟩
  rw [show (((0 : Nat) : Int) == 0) = true from rfl]
  simp only [bcase_true]
  exact awake_spec fun h3 st3 => ⟨_, rfl, rfl, (st1.trans st2).trans st3⟩

/-- Two tests, one end. -/
theorem bcase_and {a b : Bool} {X T : Prop} (hT : T) (hX : a = true → b = true → X) : bcase a (bcase b X T) T := by
  cases a
  · exact hT
  · cases b
    · exact hT
    · exact hX rfl rfl

end Go.Den.Ring
