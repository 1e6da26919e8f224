import Derived.Test.YtcdfcpicjdnieaaDenN
import Derived.Test.YtcdfcpicjdnieaaDenL
import Derived.Test.YtcdfcpicjdnieaaTally1
/- The contracts of tally; the law Nil. -/
set_option linter.unusedVariables false
namespace Go.Den.Tally
open Go Go.Den

def Holds (h : Hp) : Value → Hp → Prop := fun v h' => v = .bool true ∧ Step [] h [] h'
theorem someD_of {α : Type} {r : Option α} {a : α} {k : α → Prop} (h : r = some a) (hk : k a) : someD r k := by subst h; exact hk
theorem bcase_of_true {b : Bool} {A B : Prop} (h : b = true) (hk : A) : bcase b A B := by subst h; exact hk
theorem bcase_of_false {b : Bool} {A B : Prop} (h : b = false) (hk : B) : bcase b A B := by subst h; exact hk

theorem mty : MapTy P T.map_uint64_uint32 T.uint64 T.uint32 .u64 (.int .u32 0) := mapTy_of (by kernel_rfl)

def cv (l : List (Int × Nat)) : List (Int × Value) := l.map fun p => (p.1, .int .u32 (p.2 : Int))
/-- A key's count. -/
def cget : List (Int × Nat) → Int → Nat
  | [], _ => 0
  | (a, c) :: l, k => if k = a then c else cget l k
def cset (l : List (Int × Nat)) (k : Int) (c : Nat) : List (Int × Nat) :=
  match mf (cv l) k 0 with
  | some (i, _) => if c = 0 then l.eraseIdx i else l.set i (k, c)
  | none => if c = 0 then l else l ++ [(k, c)]

theorem mget_cv {l : List (Int × Nat)} {k : Int} : (mget (cv l) k).getD (.int .u32 0) = .int .u32 (cget l k : Int) := by
  unfold mget
  induction l with
  | nil => rfl
  | cons x l ih =>
    obtain ⟨a, c⟩ := x
    show ((mf ((a, .int .u32 (c : Int)) :: cv l) k 0).map (·.2)).getD (.int .u32 0) = _
    unfold mf cget
    split
    · rfl
    · rw [mf_shift]
      cases hm : mf (cv l) k 0 with
      | none => rw [hm] at ih; exact ih
      | some p => rw [hm] at ih; exact ih

/-- A tally. -/
structure TAt (h : Hp) (b r : Nat) (most : Nat) (l : List (Int × Nat)) : Prop where
  blk : h b = some (.cells #[.int .u32 (most : Int), .map (some r)] T.tally_Tally (0, 0))
  map : MapAt h r .u64 (cv l)

theorem TAt.keep {h h' : Hp} {b r most : Nat} {l : List (Int × Nat)} (t : TAt h b r most l) {o : List Nat} (s : Step [] h o h') : TAt h' b r most l :=
  ⟨by rw [s.keep b (by rw [t.blk]; simp) (by simp)]; exact t.blk, t.map.keep (s.keep r t.map.ne (by simp))⟩

variable {h : Hp} {b r most : Nat} {l : List (Int × Nat)} {k : Int} {K : Value → Hp → Prop}

theorem New_spec {m : Nat} (hk : ∀ h' b r, TAt h' b r m [] → Step [] h [b, r] h' → K (.pointer (some ⟨b, 0, none⟩)) h') : HC P tally_New.n #[.int .u32 (m : Int)] h K := by
  refine tally_New.hc ?_
  unfold tally_New
  intro b0 hb0 b1 hb1
  have hne : b1 ≠ b0 := by rintro rfl; rw [put_self] at hb1; cases hb1
  refine hk _ b1 b0 ⟨by rw [put_self], MapAt.empty (by rw [put_ne (Ne.symm hne), put_self])⟩ ((Step.new (o := []) hb0).trans (Step.new hb1))

theorem Of_nil (hk : K (.int .u32 0) h) : HC P tally_Tally_Of.n #[.pointer none, .int .u64 k] h K :=
  tally_Tally_Of.hc (bcase_of_true rfl hk)

theorem Of_spec (t : TAt h b r most l) (hk : K (.int .u32 (cget l k : Int)) h) : HC P tally_Tally_Of.n #[.pointer (some ⟨b, 0, none⟩), .int .u64 k] h K := by
  refine tally_Tally_Of.hc (bcase_of_false rfl ?_)
  simp only [someD_some, Addr.add_mk, Nat.zero_add]
  refine ⟨_, by rw [cell_of t.blk]; rfl, lookup_wp mty t.map ⟨_, mget_cv, hk⟩⟩

theorem cv_set {i : Nat} {c : Nat} : (cv l).set i (k, .int .u32 (c : Int)) = cv (l.set i (k, c)) := by simp [cv, List.map_set]
theorem cv_app {c : Nat} : cv l ++ [(k, .int .u32 (c : Int))] = cv (l ++ [(k, c)]) := by simp [cv]

theorem set_spec (t : TAt h b r most l) (hbr : b ≠ r) {c : Nat} (hk : ∀ h', TAt h' b r most (cset l k c) → Step [r] h [r] h' → K (.int .u32 (c : Int)) h') : HC P tally_Tally_set.n #[.pointer (some ⟨b, 0, none⟩), .int .u64 k, .int .u32 (c : Int)] h K := by
  refine tally_Tally_set.hc ?_
  unfold tally_Tally_set
  simp only [someD_some, Addr.add_mk, Nat.zero_add]
  have kp : ∀ {h'}, Step [r] h [r] h' → h' b = h b := fun s => s.keep b (by rw [t.blk]; simp) (by simpa using hbr)
  refine bcase_intro (fun hc => ?_) fun hc => ?_
  · have hc : c = 0 := by have := eq_of_beq hc; omega
    subst hc
    refine ⟨_, by rw [cell_of t.blk]; rfl, delete_wp mty t.map fun h' m s => hk h' ⟨(kp s).trans t.blk, ?_⟩ s⟩
    have e : mdel (cv l) k = cv (cset l k 0) := by
      unfold mdel cset
      cases mf (cv l) k 0 with
      | none => rfl
      | some p => simp only [if_true]; unfold cv; exact map_erase.symm
    rw [← e]; exact m
  · have hc : c ≠ 0 := fun e => by subst e; cases hc
    refine ⟨_, by rw [cell_of t.blk]; rfl, mapUpdate_wp mty t.map fun h' m s => hk h' ⟨(kp s).trans t.blk, ?_⟩ s⟩
    have e : mput (cv l) k (.int .u32 (c : Int)) = cv (cset l k c) := by
      unfold mput cset
      cases mf (cv l) k 0 with
      | none => simp only [if_neg hc]; exact cv_app
      | some p => simp only [if_neg hc]; exact cv_set
    rw [← e]; exact m

theorem wrap_u32 {n : Int} {m : Nat} (h : n = m) (hm : m < 4294967296) : IntKind.u32.wrap n = (m : Int) := by
  subst h
  have : IntKind.u32.wrap (m : Int) = (m : Int) % 4294967296 := by simp [IntKind.wrap, IntKind.signed, IntKind.bits]
  rw [this]; omega

theorem Up_nil {n : Int} (hk : K (.tuple #[.int .u32 0, .int .i64 4]) h) : HC P tally_Tally_Up.n #[.pointer none, .int .u64 k, .int .u32 n] h K := by
  refine tally_Tally_Up.hc ?_
  unfold tally_Tally_Up
  exact Of_nil ⟨_, rfl, bcase_of_true rfl hk⟩
theorem Down_nil {n : Int} (hk : K (.tuple #[.int .u32 0, .int .i64 4]) h) : HC P tally_Tally_Down.n #[.pointer none, .int .u64 k, .int .u32 n] h K := by
  refine tally_Tally_Down.hc ?_
  unfold tally_Tally_Down
  exact Of_nil ⟨_, rfl, bcase_of_true rfl hk⟩

theorem Up_spec (t : TAt h b r most l) (hbr : b ≠ r) (hm : most < 4294967296) (hl : cget l k ≤ most) {n : Nat}
    (h0 : most < cget l k + n → K (.tuple #[.int .u32 (cget l k : Int), .int .i64 4]) h)
    (h1 : cget l k + n ≤ most → ∀ h', TAt h' b r most (cset l k (cget l k + n)) → Step [r] h [r] h' → K (.tuple #[.int .u32 ((cget l k + n : Nat) : Int), .int .i64 0]) h') :
    HC P tally_Tally_Up.n #[.pointer (some ⟨b, 0, none⟩), .int .u64 k, .int .u32 (n : Int)] h K := by
  refine tally_Tally_Up.hc ?_
  unfold tally_Tally_Up
  refine Of_spec t ⟨_, rfl, bcase_of_false rfl ?_⟩
  simp only [someD_some, Addr.add_mk, Nat.zero_add]
  refine ⟨_, by rw [cell_of t.blk]; rfl, ?_⟩
  have w1 : IntKind.wrap .u32 ((most : Int) - (cget l k : Int)) = ((most - cget l k : Nat) : Int) := wrap_u32 (by omega) (by omega)
  rw [w1]
  refine bcase_intro (fun hc => h0 ?_) fun hc => ?_
  · have := of_decide_eq_true hc; omega
  · have hc := of_decide_eq_false hc
    have hle : cget l k + n ≤ most := by omega
    have w2 : IntKind.wrap .u32 ((cget l k : Int) + (n : Int)) = ((cget l k + n : Nat) : Int) := wrap_u32 (by omega) (by omega)
    rw [w2]
    exact set_spec t hbr fun h' t' s => ⟨_, rfl, h1 hle h' t' s⟩

theorem Down_spec (t : TAt h b r most l) (hbr : b ≠ r) (hl : cget l k < 4294967296) {n : Nat}
    (h0 : cget l k < n → K (.tuple #[.int .u32 (cget l k : Int), .int .i64 4]) h)
    (h1 : n ≤ cget l k → ∀ h', TAt h' b r most (cset l k (cget l k - n)) → Step [r] h [r] h' → K (.tuple #[.int .u32 ((cget l k - n : Nat) : Int), .int .i64 0]) h') :
    HC P tally_Tally_Down.n #[.pointer (some ⟨b, 0, none⟩), .int .u64 k, .int .u32 (n : Int)] h K := by
  refine tally_Tally_Down.hc ?_
  unfold tally_Tally_Down
  refine Of_spec t ⟨_, rfl, bcase_of_false rfl ?_⟩
  refine bcase_intro (fun hc => h0 ?_) fun hc => ?_
  · have := of_decide_eq_true hc; omega
  · have hc := of_decide_eq_false hc
    have hle : n ≤ cget l k := by omega
    have w2 : IntKind.wrap .u32 ((cget l k : Int) - (n : Int)) = ((cget l k - n : Nat) : Int) := wrap_u32 (by omega) (by omega)
    rw [w2]
    exact set_spec t hbr fun h' t' s => ⟨_, rfl, h1 hle h' t' s⟩

theorem awake_spec (hk : ∀ h', Step [] h [] h' → K (.bool true) h') : HC P law03_awake.n #[] h K := by
  refine law03_awake.hc ?_
  unfold law03_awake
  refine New_spec (m := 5) fun h1 b r t s1 => ⟨_, rfl, ?_⟩
  have hbr : b ≠ r := by
    rintro rfl
    have := t.blk
    obtain ⟨es, c, e, _⟩ := t.map
    rw [e] at this; cases this
  unfold law03_awake.k6
  refine Up_spec t hbr (by omega) (by simp [cget]) (n := 4) (fun hc => by simp [cget] at hc) fun _ h2 t2 s2 => ⟨_, _, rfl, ?_⟩
  have e2 : cset [] 7 (cget [] 7 + 4) = [(7, 4)] := rfl
  rw [e2] at t2
  unfold law03_awake.k5
  refine Up_spec t2 hbr (by omega) (by simp [cget]) (n := 2) (fun _ => ⟨_, _, rfl, ?_⟩) (fun hc => by simp [cget] at hc)
  unfold law03_awake.k4
  refine Down_spec t2 hbr (by simp [cget]) (n := 5) (fun _ => ⟨_, _, rfl, ?_⟩) (fun hc => by simp [cget] at hc)
  unfold law03_awake.k3
  refine bcase_of_true rfl ?_
  unfold law03_awake.k2
  refine bcase_of_true rfl ?_
  unfold law03_awake.k1
  refine bcase_of_true rfl ?_
  unfold law03_awake.k0
  refine bcase_of_true rfl (bcase_of_true rfl ?_)
  exact hk _ ((s1.trans (s2.weak (p := [b, r]) (p' := []) (by simp) (by simp))))

theorem All_1_nil {fb lb : Nat} (hf : h.cell? ⟨fb, 0, none⟩ = some (.pointer none)) (hk : K (.tuple #[]) h) :
    HC P tally_Tally_All_1.n #[.func (.yield lb) #[] #[], .pointer (some ⟨fb, 0, none⟩)] h K := by
  refine tally_Tally_All_1.hc ?_
  unfold tally_Tally_All_1
  simp only [someD_some]
  exact ⟨_, hf, bcase_of_true rfl hk⟩

theorem call_All_1 : callable P tally_Tally_All_1.n = true := by kernel_rfl

theorem Sum_nil (hk : ∀ h', Step [] h [] h' → K (.int .u64 0) h') : HC P tally_Tally_Sum.n #[.pointer none] h K := by
  refine tally_Tally_Sum.hc ?_
  unfold tally_Tally_Sum
  intro b0 hb0
  have hset : (h.put b0 (.cells #[.int .u64 0] T.uint64 (0, 0))).setCell ⟨b0, 0, none⟩ (.int .u64 0) = h.put b0 (.cells #[.int .u64 0] T.uint64 (0, 0)) := by
    rw [setCell_of put_self, put_put]; rfl
  rw [hset]
  have s0 : Step [] h [] (h.put b0 (.cells #[.int .u64 0] T.uint64 (0, 0))) := Step.put (.inr hb0)
  refine ⟨⟨_, by rw [cell_of put_self]; rfl⟩, frozen_of put_self, tally_Tally_All.hc fun fb hfb => ⟨_, _, _, rfl, trueD_intro call_All_1 fun lb R hl hbody => ?_⟩⟩
  have s1 : Step [] _ [] _ := Step.put (x := .cells #[.pointer none] T.ptr_tally_Tally (0, 0)) (.inr hfb)
  have nlf : lb ≠ fb := by rintro rfl; rw [put_self] at hl; cases hl
  have nl0 : lb ≠ b0 := by
    rintro rfl
    have : fb ≠ lb := by rintro rfl; rw [put_self] at hl; cases hl
    rw [put_ne (Ne.symm this), put_self] at hl; cases hl
  have nf0 : fb ≠ b0 := by rintro rfl; rw [put_self] at hfb; cases hfb
  have s2 : Step [] _ [] _ := Step.put (x := R.ready) (.inr hl)
  refine All_1_nil (by rw [cell_of (by rw [put_ne (Ne.symm nlf), put_self])]; rfl) (.inl ⟨put_self, 0, ?_, ?_⟩)
  · rw [cell_of (T := T.uint64) (f := (0, 0)) (cs := #[.int .u64 0]) (by rw [put_ne (Ne.symm nl0), put_ne (Ne.symm nl0), put_ne (Ne.symm nf0), put_self])]; rfl
  · rw [put_put]
    exact hk _ ((s0.trans s1).trans (Step.put (.inr hl)))

theorem told_nil {m : Int} (hk : ∀ h', Step [] h [] h' → K (.slice none 0 0) h') : HC P law03_told.n #[.pointer none, .int .i64 m] h K := by
  refine law03_told.hc ?_
  unfold law03_told
  intro b0 hb0 b1 hb1
  have s0 : Step [] h [] _ := Step.put (x := .cells #[.int .i64 m] T.int (0, 0)) (.inr hb0)
  have s1 : Step [] _ [] _ := Step.put (x := .cells #[.slice none 0 0] T.sl_tenonref03_Count (0, 0)) (.inr hb1)
  refine tally_Tally_All.hc fun fb hfb => ⟨_, _, _, rfl, trueD_intro call_All_1 fun lb R hl hbody => ?_⟩
  have s2 : Step [] _ [] _ := Step.put (x := .cells #[.pointer none] T.ptr_tally_Tally (0, 0)) (.inr hfb)
  have nlf : lb ≠ fb := by rintro rfl; rw [put_self] at hl; cases hl
  have nl1 : lb ≠ b1 := by
    rintro rfl
    rw [put_ne nlf, put_self] at hl; cases hl
  have nf1 : fb ≠ b1 := by rintro rfl; rw [put_self] at hfb; cases hfb
  refine All_1_nil (by rw [cell_of (by rw [put_ne (Ne.symm nlf), put_self])]; rfl) (.inl ⟨put_self, none, 0, 0, ?_, ?_⟩)
  · rw [cell_of (T := T.sl_tenonref03_Count) (f := (0, 0)) (cs := #[.slice none 0 0]) (by rw [put_ne (Ne.symm nl1), put_ne (Ne.symm nl1), put_ne (Ne.symm nf1), put_self])]; rfl
  · rw [put_put]
    exact hk _ (((s0.trans s1).trans s2).trans (Step.put (.inr hl)))

theorem TallyNil_holds {n : Int} : HC P law03_TallyNil.n #[.int .u64 k, .int .u32 n] h (Holds h) := by
  refine law03_TallyNil.hc ?_
  unfold law03_TallyNil
  refine Up_nil ⟨_, _, rfl, ?_⟩
  unfold law03_TallyNil.k10
  refine Down_nil ⟨_, _, rfl, ?_⟩
  unfold law03_TallyNil.k9
  refine bcase_of_true rfl ?_
  unfold law03_TallyNil.k8
  refine bcase_of_true rfl ?_
  unfold law03_TallyNil.k7
  refine bcase_of_true rfl ?_
  unfold law03_TallyNil.k6
  refine bcase_of_true rfl ?_
  unfold law03_TallyNil.k5
  refine Of_nil ⟨_, rfl, ?_⟩
  unfold law03_TallyNil.k4
  refine bcase_of_true rfl ?_
  unfold law03_TallyNil.k3
  refine Sum_nil fun h1 s1 => ⟨_, rfl, ?_⟩
  unfold law03_TallyNil.k2
  refine bcase_of_true rfl ?_
  unfold law03_TallyNil.k1
  refine told_nil fun h2 s2 => ⟨_, _, _, rfl, ?_⟩
  unfold law03_TallyNil.k0
  refine bcase_of_true rfl ?_
  exact awake_spec fun h3 s3 => ⟨_, rfl, rfl, (s1.trans s2).trans s3⟩
end Go.Den.Tally
