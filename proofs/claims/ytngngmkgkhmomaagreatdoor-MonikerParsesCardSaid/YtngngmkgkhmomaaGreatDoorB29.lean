import Derived.Test.YtngngmkgkhmomaaGreatDoorB28
import Derived.PinnedBridge
import Derived.Lib.LaidCase
import Derived.LaidMore
/- Texts that the claim needs, joined. -/
section
set_option linter.unusedVariables false
set_option maxRecDepth 100000
namespace Go.Den.Mon
open Go Go.Den
variable {h : Hp} {K : Value → Hp → Prop}
theorem esc_head {u rest l : List UInt8} {c : UInt8} (hr : stopAt rest) (e : c :: l = esc u ++ rest) :
    (sgn c = true → u = [] ∧ c :: l = rest) ∧ (c = 92 → ∃ d l' u', l = d :: l' ∧ u = d :: u' ∧ l' = esc u' ++ rest) ∧ (spc c = false → ∃ u', u = c :: u' ∧ l = esc u' ++ rest) := by
  cases u with
  | nil =>
    have e : c :: l = rest := e
    rcases hr with rfl | ⟨d, r', rfl, hd⟩
    · cases e
    · have ec : c = d := by injection e
      subst ec
      refine ⟨fun _ => ⟨rfl, e⟩, fun z => ?_, fun z => ?_⟩
      · subst z; rw [sgn92] at hd; cases hd
      · rw [sgn_spc hd] at z; cases z
  | cons x u =>
    have e' : c :: l = e1 x ++ (esc u ++ rest) := by rw [e]; simp [esc, List.append_assoc]
    unfold e1 at e'
    split at e'
    · rename_i hs
      have e2 : c :: l = 92 :: x :: (esc u ++ rest) := e'
      injection e2 with ec el
      subst ec
      exact ⟨fun z => (by rw [sgn92] at z; cases z), fun _ => ⟨x, _, u, el, rfl, rfl⟩, fun z => absurd z (by decide +kernel)⟩
    · rename_i hs
      have hs : spc x = false := by simpa using hs
      have e2 : c :: l = x :: (esc u ++ rest) := e'
      injection e2 with ec el
      subst ec
      exact ⟨fun z => (by rw [sgn_spc z] at hs; cases hs), fun z => (by subst z; exact absurd hs (by decide +kernel)), fun _ => ⟨u, rfl, el⟩⟩
theorem esc_nil {u rest : List UInt8} (e : [] = esc u ++ rest) : u = [] ∧ rest = [] := by
  have e := List.append_eq_nil_iff.1 e.symm
  refine ⟨?_, e.2⟩
  cases u with
  | nil => rfl
  | cons x u =>
    have : e1 x ++ esc u = [] := e.1
    unfold e1 at this
    split at this <;> cases this
theorem drop_at {s : List UInt8} {j : Nat} (hj : j < s.length) : ∃ ch, s[j]? = some ch ∧ s.drop j = ch :: s.drop (j + 1) := ⟨s[j], List.getElem?_eq_getElem hj, List.drop_eq_getElem_cons hj⟩
/-- What is right of a part that was read. -/
def Good (s : List UInt8) (i : Nat) (x : Raw) (i' : Nat) : Prop := ∀ y rest, Cn y → s.drop i = txt1 y ++ rest → stopAt rest → x = y ∧ s.drop i' = rest
abbrev Plain (x : Raw) : Prop := x.sn = 0 ∧ x.sa = none ∧ x.sc = 0
section
variable {b0 : Nat} {L : List Raw} {a : Option Addr} {c : Nat} {o : List Nat} {h0 hX : Hp} {s : List UInt8} {i : Nat}
theorem pushD {b2 : Nat} {x : Raw} {B : Value → Hp → Prop} (wX : PD h b0 L a c o hX) (ln : L.length ≤ 65) (M : MB hX b2 x) (k : x.Ok) (hp : Plain x) (hB : ∀ a' c' o' h', PD h b0 (L ++ [x]) a' c' o' h' → B (.slice a' (L ++ [x]).length c') h') :
    ∃ cs7 : Array Value, (CellsAt hX ⟨b2, 0, none⟩ 20 cs7) ∧ ((cs7.size = 20) ∧ (∀ v : Value, (v ∈ (Array.toList cs7 : List Value) → (Den.cellish v) = Bool.true)) ∧ True) ∧ (∀ b7 : Nat, (hX b7 = none → wpSem P (Builtin.append_ #[T.sl_api_Moniker, T.sl_api_Moniker] T.sl_api_Moniker #[.slice a L.length c, .slice (some ⟨b7, 0, none⟩) 1 1]) B (hX.put b7 (.cells (Array.mk (catA cs7 [])) T.api_Moniker (0, 0))))) :=
  ⟨_, M.all k, ⟨by simpa using mc_len k, mc_cellish, trivial⟩, fun b7 hb7 => monPush k wX.sl hb7 (by omega) fun a' c' o' h' s' st' => hB a' c' o' h' (wX.push k hp s' st')⟩
theorem zW {b2 : Nat} (hb : h0 b2 = none) : (h0.put b2 (.cells zMon T.api_Moniker (0, 0))).setCells ⟨b2, 0, none⟩ zMon = h0.put b2 (.cells (mc nl).toArray T.api_Moniker (0, 0)) := newM (x := nl) nl_ok hb
variable {I0 : List Value → Hp → Prop} {x0 : List Value → Hp → Nat}
/-- The part that came out stands behind the others, and the reader goes on. -/
def Nx (h : Hp) (b0 : Nat) (L : List Raw) (a : Option Addr) (c : Nat) (h0 : Hp) (i : Nat) (I0 : List Value → Hp → Prop) (x0 : List Value → Hp → Nat) (s : List UInt8) : Prop :=
  ∀ (x : Raw) (i' : Nat), i < i' → i' ≤ s.length + 1 → Good s i x i' → ∀ a' c' o' h', PD h b0 (L ++ [x]) a' c' o' h' → I0 [.int .i64 (i' : Int), .slice a' (L ++ [x]).length c'] h' ∧ x0 [.int .i64 (i' : Int), .slice a' (L ++ [x]).length c'] h' < x0 [.int .i64 (i : Int), .slice a L.length c] h0
theorem rItem {b2 : Nat} (w : PD h b0 L a c o h0) (ln : L.length ≤ 65) (hl : s.length < 100000) (hi : i < s.length) (hb : h0 b2 = none) (h33 : s[i]? = some 33) (nx : Nx h b0 L a c h0 i I0 x0 s) :
    ref21_Parse.k22 h0 b2 i (str s) a L.length c I0 x0 := by
  have n0 : b0 ≠ b2 := fun e => by rw [← e, w.z] at hb; cases hb
  have no : ∀ q ∈ o, q ≠ b2 := fun q hq e => w.sl.mem q hq (by rw [e]; exact hb)
  have f2 := w.free hb
  have p1 : b0 ∉ [b2] := by simpa using n0
  have p2 : ∀ q ∈ o, q ∉ [b2] := fun q hq => by simpa using no q hq
  have p3 : ∀ q ∈ [b2], h q = none := fun q hq => by simp at hq; rw [hq]; exact f2
  have w1 : PD h b0 L a c o (h0.put b2 (.cells (mc nl).toArray T.api_Moniker (0, 0))) := w.step (Step.put (.inr hb))
  have M1 : MB (h0.put b2 (.cells (mc nl).toArray T.api_Moniker (0, 0))) b2 nl := put_self
  have z := zW (h0 := h0) hb
  have wi : IntKind.wrap .i64 ((i : Int) + 1) = ((i + 1 : Nat) : Int) := wrapN (by omega) (by omega)
  unfold ref21_Parse.k22
  rw [wi]
  refine Eq.mpr (congrArg (fun H => (∃ u0 : Value, (H.cell? ((⟨b2, 0, none⟩ : Addr).add 0)) = (some u0)) ∧ ((H.frozen? ((⟨b2, 0, none⟩ : Addr).add 0)) = Bool.false) ∧ (∃ I1 : List Value → Hp → Prop, (∃ x1 : List Value → Hp → Nat, (I1 [.slice none 0 0, .int .i64 ((i + 1 : Nat) : Int)] (H.setCell ((⟨b2, 0, none⟩ : Addr).add 0) (.int .i64 1))) ∧ (∀ h1 : Hp, (∀ a1 : Option Addr, (∀ n2 : Nat, (∀ c1 : Nat, (∀ n3 : Int, (I1 [.slice a1 n2 c1, .int .i64 n3] h1 → bcase (decide (n3 < ((str s).size : Int)))
 ((ref21_Parse.k21 n3 (str s) h1 a1 n2 c1 I1 x1 b2 a L.length c I0 x0 i h0))
 ((ref21_Parse.k18 a1 n2 c1 b2 a L.length c I0 n3 x0 i h0 h1))))))))))) z) ?_
  generalize h0.put b2 (.cells (mc nl).toArray T.api_Moniker (0, 0)) = H1 at w1 M1 ⊢
  rw [Addr.add_mk, Nat.zero_add]
  have w2 : PD h b0 L a c o (H1.setCell ⟨b2, 0, none⟩ (.int .i64 1)) := w1.wr (own := [b2]) (Step.setCell M1 (by simp)) p1 p2 p3
  have M2 : MB (H1.setCell ⟨b2, 0, none⟩ (.int .i64 1)) b2 (kd 1) := M1.setK
  refine ⟨⟨_, M1.kind⟩, frozen_of M1, ?_⟩
  generalize H1.setCell ⟨b2, 0, none⟩ (.int .i64 1) = H2 at w2 M2 ⊢
  have kk : (kd 1).Ok := kd_ok (by omega) (by omega)
  obtain ⟨I1, hI1⟩ : ∃ I1 : List Value → Hp → Prop, I1 = fun vs hh => ∃ (t : List UInt8) (j : Nat) (a1 : Option Addr) (c1 : Nat) (o1 : List Nat), vs = [.slice a1 t.length c1, .int .i64 (j : Int)] ∧ i + 1 ≤ j ∧ j ≤ s.length + 1 ∧ t.length ≤ j ∧ RP H2 t a1 c1 o1 hh ∧ ∀ u rest, s.drop (i + 1) = esc u ++ rest → stopAt rest → ∃ u2, u = t ++ u2 ∧ s.drop j = esc u2 ++ rest := ⟨_, rfl⟩
  obtain ⟨x1, hx1⟩ : ∃ x1 : List Value → Hp → Nat, x1 = fun vs _ => match vs with | [_, .int _ j] => s.length + 2 - j.toNat | _ => 0 := ⟨_, rfl⟩
  refine ⟨I1, x1, by rw [hI1]; exact ⟨[], i + 1, none, 0, [], rfl, Nat.le_refl _, by omega, by simp, ⟨.none, Step.refl _ _⟩, fun u rest e _ => ⟨u, rfl, e⟩⟩, ?_⟩
  intro h1 a1' n2 c1' n3 hin
  rw [hI1] at hin
  obtain ⟨t, j, a1, c1, o1, he, j1, j2, tl, R, inv⟩ := hin
  have e0 : a1' = a1 ∧ n2 = t.length ∧ c1' = c1 ∧ n3 = (j : Int) := by cases he; exact ⟨rfl, rfl, rfl, rfl⟩
  clear he
  obtain ⟨rfl, rfl, rfl, rfl⟩ := e0
  have S2 : Step [] H2 [] h1 := R.st.forget0
  -- the end
  have done : (∀ u2 rest, s.drop j = esc u2 ++ rest → stopAt rest → u2 = []) → ref21_Parse.k18 a1' t.length c1' b2 a L.length c I0 j x0 i h0 h1 := fun hend => by
    unfold ref21_Parse.k18
    refine bytesStr_wp R.sl.src ⟨_, rfl, ?_⟩
    have M3 := M2.step S2
    have w3 := w2.step S2
    unfold ref21_Parse.k17
    rw [Addr.add_mk, Nat.zero_add]
    have M4 : MB (h1.setCell ⟨b2, 17, none⟩ (.string ⟨t.toArray⟩)) b2 { kd 1 with txt := str t } := M3.setT kk
    have w4 : PD h b0 L a c o (h1.setCell ⟨b2, 17, none⟩ (.string ⟨t.toArray⟩)) := w3.wr (own := [b2]) (Step.setCell M3 (by simp)) p1 p2 p3
    refine ⟨⟨_, M3.txt kk⟩, frozen_of M3, pushD w4 ln M4 ⟨z16_is, kk.H, kk.kind, by show (str t).size ≤ _; rw [str_size]; omega⟩ ⟨rfl, rfl, rfl⟩ fun a' c' o' h' w' => ⟨_, _, _, rfl, ?_⟩⟩
    unfold ref21_Parse.k16
    refine nx _ j (by omega) j2 (fun y rest cy ey hr => ?_) a' c' o' h' w'
    have ey' : (33 : UInt8) :: s.drop (i + 1) = txt1 y ++ rest := by
      rw [← ey]
      obtain ⟨ch, q1, q2⟩ := drop_at hi
      rw [h33] at q1; cases q1
      exact q2.symm
    rcases txt1_cases cy ey' with ⟨-, e2, e3⟩ | ⟨q, -⟩ | ⟨q, -⟩ | ⟨q, -⟩
    · obtain ⟨u2, eu, er⟩ := inv _ _ e2 hr
      have := hend u2 rest er hr
      subst this
      rw [List.append_nil] at eu
      refine ⟨?_, er⟩
      rw [e3, ← eu, str_self]
    · exact absurd q (by decide)
    · exact absurd q (by decide)
    · exact absurd q (by decide)
  -- one byte more
  have more : ∀ (e : UInt8) (j' : Nat) (a2 : Option Addr) (c2 : Nat) (o2 : List Nat) (h' : Hp), j < j' → j' ≤ s.length + 1 → (∀ u2 rest, s.drop j = esc u2 ++ rest → stopAt rest → ∃ u3, u2 = e :: u3 ∧ s.drop j' = esc u3 ++ rest) → RP H2 (t ++ [e]) a2 c2 o2 h' →
      I1 [.slice a2 (t ++ [e]).length c2, .int .i64 (j' : Int)] h' ∧ x1 [.slice a2 (t ++ [e]).length c2, .int .i64 (j' : Int)] h' < x1 [.slice a1' t.length c1', .int .i64 (j : Int)] h1 := fun e j' a2 c2 o2 h' l1 l2 hs R' => by
    refine ⟨?_, ?_⟩
    · rw [hI1]
      refine ⟨t ++ [e], j', a2, c2, o2, rfl, by omega, l2, by simp; omega, R', fun u rest eu hr => ?_⟩
      obtain ⟨u2, q1, q2⟩ := inv u rest eu hr
      obtain ⟨u3, q3, q4⟩ := hs u2 rest q2 hr
      exact ⟨u3, by rw [q1, q3]; simp, q4⟩
    · rw [hx1]
      show s.length + 2 - (j' : Int).toNat < s.length + 2 - (j : Int).toNat
      omega
  rw [str_size]
  refine bcase_intro (fun hc => ?_) fun hc => ?_
  case refine_2 =>
    refine done fun u2 rest e hr => ?_
    rw [List.drop_eq_nil_of_le (by have := of_decide_eq_false hc; omega)] at e
    exact (esc_nil e).1
  have hc : j < s.length := by have := of_decide_eq_true hc; omega
  obtain ⟨d, hd, dd⟩ := drop_at hc
  have gd : (str s)[((j : Nat) : Int).toNat]? = some d := str_get hd
  have wj : IntKind.wrap .i64 ((j : Int) + 1) = ((j + 1 : Nat) : Int) := wrapN (by omega) (by omega)
  have wj2 : IntKind.wrap .i64 (((j + 1 : Nat) : Int) + 1) = ((j + 2 : Nat) : Int) := wrapN (by omega) (by omega)
  unfold ref21_Parse.k21
  refine ⟨by omega, d, gd, ?_⟩
  rw [nat92]
  refine bcase_intro (fun h92 => ?_) fun h92 => ?_
  · unfold ref21_Parse.k8
    refine ⟨by omega, d, gd, ?_⟩
    rw [nat92]
    refine bcT h92 ?_
    have h92 : d = 92 := of_decide_eq_true h92
    subst h92
    unfold ref21_Parse.k3
    rw [wj, str_size]
    refine bcase_intro (fun hc1 => ?_) fun hc1 => ?_
    · have hc1 : j + 1 < s.length := by have := of_decide_eq_true hc1; omega
      obtain ⟨e, he, de⟩ := drop_at hc1
      unfold ref21_Parse.k1
      rw [wj]
      refine ⟨by omega, e, str_get he, fun b6 hb6 => R.byte hb6 e (by omega) fun a' c' o' h' R' => ⟨_, _, _, rfl, ?_⟩⟩
      unfold ref21_Parse.k0
      rw [wj, wj2]
      refine more e (j + 2) a' c' o' h' (by omega) (by omega) (fun u2 rest eu hr => ?_) R'
      rw [dd, de] at eu
      obtain ⟨d', l', u', q1, q2, q3⟩ := (esc_head hr eu).2.1 rfl
      injection q1 with q4 q5
      subst q4
      exact ⟨u', q2, by rw [q5]; exact q3⟩
    · have hc1 : s.length ≤ j + 1 := by have := of_decide_eq_false hc1; omega
      unfold ref21_Parse.k2
      rw [wj, wj2]
      refine ⟨?_, ?_⟩
      · rw [hI1]
        refine ⟨t, j + 2, a1', c1', o1, rfl, by omega, by omega, by omega, R, fun u rest eu hr => ?_⟩
        obtain ⟨u2, q1, q2⟩ := inv u rest eu hr
        rw [dd] at q2
        obtain ⟨d', l', u', q3, -⟩ := (esc_head hr q2).2.1 rfl
        rw [List.drop_eq_nil_of_le hc1] at q3
        cases q3
      · rw [hx1]
        show s.length + 2 - ((j + 2 : Nat) : Int).toNat < s.length + 2 - (j : Int).toNat
        omega
  · have n92 : d ≠ 92 := of_decide_eq_false h92
    unfold ref21_Parse.k20
    refine ⟨by omega, d, gd, special_spec ⟨_, rfl, ?_⟩⟩
    unfold ref21_Parse.k19
    refine bcase_intro (fun hs => ?_) fun hs => ?_
    · have hs : spc d = false := by simpa using hs
      unfold ref21_Parse.k15
      refine ⟨by omega, d, gd, ?_⟩
      rw [nat92]
      refine bcF h92 ?_
      unfold ref21_Parse.k14
      rw [str_size]
      refine bcT (decide_eq_true (by omega)) ?_
      unfold ref21_Parse.k12
      refine ⟨by omega, d, gd, fun b8 hb8 => R.byte hb8 d (by omega) fun a' c' o' h' R' => ⟨_, _, _, rfl, ?_⟩⟩
      unfold ref21_Parse.k4
      rw [wj]
      refine more d (j + 1) a' c' o' h' (by omega) (by omega) (fun u2 rest eu hr => ?_) R'
      rw [dd] at eu
      obtain ⟨u', q1, q2⟩ := (esc_head hr eu).2.2 hs
      exact ⟨u', q1, q2⟩
    · have hs : spc d = true := by simpa using hs
      refine done fun u2 rest e hr => ?_
      rw [dd] at e
      exact ((esc_head hr e).1 (spc_or hs n92)).1
end
end Go.Den.Mon
end

section
set_option linter.unusedVariables false
set_option maxRecDepth 100000
namespace Go.Den.Mon
open Go Go.Den
variable {h : Hp} {K : Value → Hp → Prop}
section
variable {b0 : Nat} {L : List Raw} {a : Option Addr} {c : Nat} {o : List Nat} {h0 hX : Hp} {s : List UInt8} {i : Nat} {I0 : List Value → Hp → Prop} {x0 : List Value → Hp → Nat}
/-- What all elements share. -/
theorem rNew {b2 : Nat} (w : PD h b0 L a c o h0) (hb : h0 b2 = none) {k : Int} :
    PD h b0 L a c o (h0.put b2 (.cells (mc nl).toArray T.api_Moniker (0, 0))) ∧ MB (h0.put b2 (.cells (mc nl).toArray T.api_Moniker (0, 0))) b2 nl ∧ b0 ∉ [b2] ∧ (∀ q ∈ o, q ∉ [b2]) ∧ (∀ q ∈ [b2], h q = none) ∧
    PD h b0 L a c o ((h0.put b2 (.cells (mc nl).toArray T.api_Moniker (0, 0))).setCell ⟨b2, 0, none⟩ (.int .i64 k)) ∧ MB ((h0.put b2 (.cells (mc nl).toArray T.api_Moniker (0, 0))).setCell ⟨b2, 0, none⟩ (.int .i64 k)) b2 (kd k) := by
  have n0 : b0 ≠ b2 := fun e => by rw [← e, w.z] at hb; cases hb
  have no : ∀ q ∈ o, q ≠ b2 := fun q hq e => w.sl.mem q hq (by rw [e]; exact hb)
  have f2 := w.free hb
  have p1 : b0 ∉ [b2] := by simpa using n0
  have p2 : ∀ q ∈ o, q ∉ [b2] := fun q hq => by simpa using no q hq
  have p3 : ∀ q ∈ [b2], h q = none := fun q hq => by simp at hq; rw [hq]; exact f2
  have w1 : PD h b0 L a c o (h0.put b2 (.cells (mc nl).toArray T.api_Moniker (0, 0))) := w.step (Step.put (.inr hb))
  have M1 : MB (h0.put b2 (.cells (mc nl).toArray T.api_Moniker (0, 0))) b2 nl := put_self
  exact ⟨w1, M1, p1, p2, p3, w1.wr (own := [b2]) (Step.setCell M1 (by simp)) p1 p2 p3, M1.setK⟩
theorem drop_hd {ch : UInt8} (hc : s[i]? = some ch) : s.drop i = ch :: s.drop (i + 1) := by
  obtain ⟨hi, e⟩ := List.getElem?_eq_some_iff.1 hc
  rw [← e]; exact List.drop_eq_getElem_cons hi
theorem rDot {b2 : Nat} (w : PD h b0 L a c o h0) (ln : L.length ≤ 65) (hl : s.length < 100000) (hi : i < s.length) (hb : h0 b2 = none) (h46 : s[i]? = some 46) (nx : Nx h b0 L a c h0 i I0 x0 s) :
    ref21_Parse.k39 h0 b2 a L.length c I0 i x0 := by
  obtain ⟨w1, M1, p1, p2, p3, w2, M2⟩ := rNew w hb (k := 4)
  unfold ref21_Parse.k39
  rw [zW hb, Addr.add_mk, Nat.zero_add]
  refine ⟨⟨_, M1.kind⟩, frozen_of M1, pushD w2 ln M2 (kd_ok (by omega) (by omega)) ⟨rfl, rfl, rfl⟩ fun a' c' o' h' w' => ⟨_, _, _, rfl, ?_⟩⟩
  unfold ref21_Parse.k38
  rw [wrapN (m := i + 1) (by omega) (by omega)]
  refine nx _ (i + 1) (by omega) (by omega) (fun y rest cy ey hr => ?_) a' c' o' h' w'
  rw [drop_hd h46] at ey
  rcases txt1_cases cy ey with ⟨q, -⟩ | ⟨q, -⟩ | ⟨q, -⟩ | ⟨-, q1, q2⟩
  · exact absurd q (by decide)
  · exact absurd q (by decide)
  · exact absurd q (by decide)
  · exact ⟨q2.symm, q1⟩
theorem rElse {b2 : Nat} {ch : UInt8} (w : PD h b0 L a c o h0) (ln : L.length ≤ 65) (hl : s.length < 100000) (hi : i < s.length) (hb : h0 b2 = none) (hc : s[i]? = some ch) (n1 : ch ≠ 33) (n2 : ch ≠ 58) (n3 : ch ≠ 64) (n4 : ch ≠ 46) (nx : Nx h b0 L a c h0 i I0 x0 s) :
    ref21_Parse.k40 h0 b2 a L.length c I0 i x0 := by
  obtain ⟨w1, M1, p1, p2, p3, w2, M2⟩ := rNew w hb (k := 4)
  unfold ref21_Parse.k40
  rw [zW hb]
  refine pushD w1 ln M1 nl_ok ⟨rfl, rfl, rfl⟩ fun a' c' o' h' w' => ⟨_, _, _, rfl, ?_⟩
  unfold ref21_Parse.k38
  rw [wrapN (m := i + 1) (by omega) (by omega)]
  refine nx _ (i + 1) (by omega) (by omega) (fun y rest cy ey hr => ?_) a' c' o' h' w'
  rw [drop_hd hc] at ey
  rcases txt1_cases cy ey with ⟨q, -⟩ | ⟨q, -⟩ | ⟨q, -⟩ | ⟨q, -⟩
  · exact absurd q n1
  · exact absurd q n2
  · exact absurd q n3
  · exact absurd q n4
theorem rGuid {b2 : Nat} (w : PD h b0 L a c o h0) (ln : L.length ≤ 65) (hl : s.length < 100000) (hi : i < s.length) (hb : h0 b2 = none) (h58 : s[i]? = some 58) (nx : Nx h b0 L a c h0 i I0 x0 s) :
    ref21_Parse.k25 h0 b2 (str s) i a L.length c I0 x0 := by
  obtain ⟨w1, M1, p1, p2, p3, w2, M2⟩ := rNew w hb (k := 2)
  obtain ⟨en, hen⟩ : ∃ en, en = if s.length < i + 39 then s.length else i + 39 := ⟨_, rfl⟩
  have len1 : i + 1 ≤ en := by rw [hen]; split <;> omega
  have len2 : en ≤ s.length := by rw [hen]; split <;> omega
  have ween : (if ((str s).size : Int) < (IntKind.wrap .i64 ((IntKind.wrap .i64 ((i : Int) + 1)) + 38)) then ((str s).size : Int) else (IntKind.wrap .i64 ((IntKind.wrap .i64 ((i : Int) + 1)) + 38))) = (en : Int) := by
    have wi : IntKind.wrap .i64 ((i : Int) + 1) = ((i + 1 : Nat) : Int) := wrapN (by omega) (by omega)
    have wj : IntKind.wrap .i64 (((i + 1 : Nat) : Int) + 38) = ((i + 39 : Nat) : Int) := wrapN (by omega) (by omega)
    rw [wi, wj, str_size, hen]
    split <;> split <;> omega
  unfold ref21_Parse.k25
  rw [zW hb, Addr.add_mk, Nat.zero_add, ween, wrapN (m := i + 1) (by omega) (by omega), sub_eq, str_l]
  refine ⟨⟨_, M1.kind⟩, frozen_of M1, by omega, by rw [str_size]; omega, by omega, by omega, ?_⟩
  generalize (h0.put b2 (.cells (mc nl).toArray T.api_Moniker (0, 0))).setCell ⟨b2, 0, none⟩ (.int .i64 2) = H2 at w2 M2 ⊢
  have kk : (kd 2).Ok := kd_ok (by omega) (by omega)
  have e1' : ((i + 1 : Nat) : Int).toNat = i + 1 := rfl
  have e2' : ((en : Nat) : Int).toNat = en := rfl
  rw [e1', e2']
  have ls : (str ((s.drop (i + 1)).take (en - (i + 1)))).size < 9223372036854775808 := by rw [str_size, List.length_take, List.length_drop]; omega
  have fin : ∀ {g : List Nat} {h9 : Hp}, isG g → Step [] H2 [] h9 → (∀ id rest, isG id → s.drop (i + 1) = prL id ++ rest → g = id) → ref21_Parse.k24 (gcs g) h9 b2 a L.length c I0 (str s) i x0 h0 := fun {g h9} hg s9 good => by
    have M3 := M2.step s9
    have w3 := w2.step s9
    obtain ⟨eX, fX⟩ := M3.setId kk hg.1
    have MX : MB (h9.put b2 (.cells (mc { kd 2 with id := g }).toArray T.api_Moniker (0, 0))) b2 { kd 2 with id := g } := put_self
    have wX : PD h b0 L a c o (h9.put b2 (.cells (mc { kd 2 with id := g }).toArray T.api_Moniker (0, 0))) := w3.wr (own := [b2]) (Step.put (.inl (by simp))) p1 p2 p3
    unfold ref21_Parse.k24
    rw [Addr.add_mk, Nat.zero_add, eX]
    refine ⟨gcs_cellish, fX, pushD wX ln MX ⟨hg, kk.H, kk.kind, kk.txt⟩ ⟨rfl, rfl, rfl⟩ fun a' c' o' h' w' => ⟨_, _, _, rfl, ?_⟩⟩
    unfold ref21_Parse.k23
    rw [ween]
    refine nx _ en (by omega) (by omega) (fun y rest cy ey hr => ?_) a' c' o' h' w'
    rw [drop_hd h58] at ey
    rcases txt1_cases cy ey with ⟨q, -⟩ | ⟨-, q1, q2⟩ | ⟨q, -⟩ | ⟨q, -⟩
    · exact absurd q (by decide)
    · have eg := good _ _ cy.ok.id q1
      have l38 := congrArg List.length q1
      rw [List.length_drop, List.length_append, prL_38] at l38
      have een : en = i + 1 + 38 := by rw [hen]; split <;> omega
      refine ⟨by rw [q2, eg], ?_⟩
      rw [een, ← List.drop_drop, q1]
      exact (prL_take prL_38).2
    · exact absurd q (by decide)
    · exact absurd q (by decide)
  have tk : ∀ id rest, isG id → s.drop (i + 1) = prL id ++ rest → (s.drop (i + 1)).take (en - (i + 1)) = prL id := fun id rest hg e => by
    have l38 := congrArg List.length e
    rw [List.length_drop, List.length_append, prL_38] at l38
    have een : en - (i + 1) = 38 := by rw [hen]; split <;> omega
    rw [een, e]
    exact (prL_take prL_38).1
  refine rParse_spec ls (fun q h9 s9 => ⟨_, _, rfl, ?_⟩) fun q h9 s9 => ⟨_, _, rfl, ?_⟩
  · rw [str_l]
    refine ⟨by rw [gcs_size, (scan_is _).1], fin (scan_is _) s9 fun id rest hg e => ?_⟩
    rw [tk id rest hg e]
    exact (acc_self hg).scan hg
  · rw [str_l] at q
    rw [← gcs_z16]
    refine ⟨by rw [gcs_size, z16_is.1], fin z16_is s9 fun id rest hg e => ?_⟩
    rw [tk id rest hg e, (acc_self hg).scan hg] at q
    exact absurd (acc_self hg) q
end
end Go.Den.Mon
end

section
set_option linter.unusedVariables false
set_option maxRecDepth 100000
namespace Go.Den.Mon
open Go Go.Den
variable {h : Hp} {K : Value → Hp → Prop}
section
variable {b0 : Nat} {L : List Raw} {a : Option Addr} {c : Nat} {o : List Nat} {h0 hX : Hp} {s : List UInt8} {i : Nat} {I0 : List Value → Hp → Prop} {x0 : List Value → Hp → Nat}
theorem hexc_rng {d : Nat} (hd : d < 16) : (48 ≤ (hexc d).toNat ∧ (hexc d).toNat ≤ 57) ∨ (97 ≤ (hexc d).toNat ∧ (hexc d).toNat ≤ 102) := by
  rw [hexc_toNat hd]; split <;> omega
theorem take_at {l : List UInt8} {k : Nat} {ch : UInt8} (e : l[k]? = some ch) : l.take (k + 1) = l.take k ++ [ch] := by
  rw [List.take_add_one, e]; rfl
theorem wu64_any (x : Int) : ∃ n : Nat, IntKind.wrap .u64 x = (n : Int) ∧ n < 18446744073709551616 := by
  rw [IntKind.wrap_u64]
  exact ⟨(x % 18446744073709551616).toNat, by omega, by omega⟩
theorem rHex {b2 : Nat} (w : PD h b0 L a c o h0) (ln : L.length ≤ 65) (hl : s.length < 100000) (hi : i < s.length) (hb : h0 b2 = none) (h64 : s[i]? = some 64) (nx : Nx h b0 L a c h0 i I0 x0 s) :
    ref21_Parse.k37 h0 b2 i (str s) a L.length c I0 x0 := by
  obtain ⟨w1, M1, p1, p2, p3, w2, M2⟩ := rNew w hb (k := 3)
  have wi : IntKind.wrap .i64 ((i : Int) + 1) = ((i + 1 : Nat) : Int) := wrapN (by omega) (by omega)
  have kk : (kd 3).Ok := kd_ok (by omega) (by omega)
  unfold ref21_Parse.k37
  rw [zW hb, Addr.add_mk, Nat.zero_add, wi]
  refine ⟨⟨_, M1.kind⟩, frozen_of M1, ?_⟩
  generalize (h0.put b2 (.cells (mc nl).toArray T.api_Moniker (0, 0))).setCell ⟨b2, 0, none⟩ (.int .i64 3) = H2 at w2 M2 ⊢
  obtain ⟨I2, hI2⟩ : ∃ I2 : List Value → Hp → Prop, I2 = fun vs hh => ∃ (k n : Nat), vs = [.int .i64 ((i + 1 + k : Nat) : Int), .int .i64 (k : Int)] ∧ k ≤ 16 ∧ i + 1 + k ≤ s.length ∧ n < 18446744073709551616 ∧ MB hh b2 { kd 3 with H := n } ∧ PD h b0 L a c o hh ∧ ∀ H rest, s.drop (i + 1) = hf H 16 ++ rest → n = uv ((hf H 16).take k) := ⟨_, rfl⟩
  obtain ⟨x2, hx2⟩ : ∃ x2 : List Value → Hp → Nat, x2 = fun vs _ => match vs with | [_, .int _ j] => 16 - j.toNat | _ => 0 := ⟨_, rfl⟩
  refine ⟨I2, x2, by rw [hI2]; exact ⟨0, 0, rfl, by omega, by omega, by omega, M2, w2, fun H rest _ => rfl⟩, ?_⟩
  intro h11 n10 n11 hin
  rw [hI2] at hin
  obtain ⟨k, n, he, k16, ki, nlt, M, W, inv⟩ := hin
  have e0 : n10 = ((i + 1 + k : Nat) : Int) ∧ n11 = (k : Int) := by cases he; exact ⟨rfl, rfl⟩
  clear he
  obtain ⟨rfl, rfl⟩ := e0
  have kn : ({ kd 3 with H := n } : Raw).Ok := ⟨z16_is, nlt, kk.kind, kk.txt⟩
  have done : (∀ H rest, s.drop (i + 1) = hf H 16 ++ rest → k = 16) → ref21_Parse.k35 h11 b2 a L.length c I0 ((i + 1 + k : Nat) : Int) x0 i h0 := fun hend => by
    unfold ref21_Parse.k35
    refine pushD W ln M kn ⟨rfl, rfl, rfl⟩ fun a' c' o' h' w' => ⟨_, _, _, rfl, ?_⟩
    unfold ref21_Parse.k16
    refine nx _ (i + 1 + k) (by omega) (by omega) (fun y rest cy ey hr => ?_) a' c' o' h' w'
    rw [drop_hd h64] at ey
    rcases txt1_cases cy ey with ⟨q, -⟩ | ⟨q, -⟩ | ⟨-, q1, q2⟩ | ⟨q, -⟩
    · exact absurd q (by decide)
    · exact absurd q (by decide)
    · have := hend _ _ q1
      subst this
      have e := inv _ _ q1
      rw [List.take_of_length_le (by rw [hf_len]; omega), uv_hf (show y.H < 16 ^ 16 from cy.ok.H)] at e
      refine ⟨by rw [q2, e], ?_⟩
      rw [← List.drop_drop, q1]
      exact List.drop_left' hf_len
    · exact absurd q (by decide)
  refine bcase_intro (fun hk => ?_) fun hk => ?_
  case refine_2 => exact done fun H rest _ => by have := of_decide_eq_false hk; omega
  have hk : k < 16 := by have := of_decide_eq_true hk; omega
  unfold ref21_Parse.k36
  rw [str_size]
  refine bcase_intro (fun hc => ?_) fun hc => ?_
  case refine_2 =>
    refine done fun H rest e => ?_
    have hc := of_decide_eq_false hc
    have l := congrArg List.length e
    rw [List.length_drop, List.length_append, hf_len] at l
    omega
  have hc : i + 1 + k < s.length := by have := of_decide_eq_true hc; omega
  obtain ⟨d, hd, dd⟩ := drop_at hc
  have gd : (str s)[((i + 1 + k : Nat) : Int).toNat]? = some d := str_get hd
  have hd256 : d.toNat < 256 := UInt8.toNat_lt _
  have wk : IntKind.wrap .i64 ((k : Int) + 1) = ((k + 1 : Nat) : Int) := wrapN (by omega) (by omega)
  have wik : IntKind.wrap .i64 (((i + 1 + k : Nat) : Int) + 1) = ((i + 1 + (k + 1) : Nat) : Int) := by rw [show i + 1 + (k + 1) = i + 1 + k + 1 by omega]; exact wrapN (by omega) (by omega)
  -- in the good case the byte is a digit, and the number stays small
  have gdig : ∀ H rest, s.drop (i + 1) = hf H 16 ++ rest → (∃ x, x < 16 ∧ d = hexc x) ∧ (hf H 16).take (k + 1) = (hf H 16).take k ++ [d] ∧ uv ((hf H 16).take k) < 16 ^ 15 := fun H rest e => by
    have ek : (hf H 16)[k]? = some d := by
      have q : (s.drop (i + 1))[k]? = some d := by rw [List.getElem?_drop]; exact hd
      rw [e, List.getElem?_append_left (by rw [hf_len]; exact hk)] at q
      exact q
    refine ⟨hf_mem d (List.mem_of_getElem? ek), take_at ek, ?_⟩
    have q := uv_lt (l := (hf H 16).take k)
    rw [List.length_take, hf_len, Nat.min_eq_left (by omega)] at q
    exact Nat.lt_of_lt_of_le q (Nat.pow_le_pow_right (by omega) (by omega))
  -- one digit more, whatever is added
  have step : ∀ (V : Int), (∀ H rest, s.drop (i + 1) = hf H 16 ++ rest → V = ((uv ((hf H 16).take (k + 1)) : Nat) : Int)) → (∃ m : Nat, V = (m : Int) ∧ m < 18446744073709551616) →
      (∃ u4 : Value, (h11.cell? ((⟨b2, 0, none⟩ : Addr).add 18)) = (some u4)) ∧ ((h11.frozen? ((⟨b2, 0, none⟩ : Addr).add 18)) = Bool.false) ∧ (I2 [.int .i64 (IntKind.wrap .i64 (((i + 1 + k : Nat) : Int) + 1)), .int .i64 (IntKind.wrap .i64 ((k : Int) + 1))] (h11.setCell ((⟨b2, 0, none⟩ : Addr).add 18) (.int .u64 V))) ∧
      (x2 [.int .i64 (IntKind.wrap .i64 (((i + 1 + k : Nat) : Int) + 1)), .int .i64 (IntKind.wrap .i64 ((k : Int) + 1))] (h11.setCell ((⟨b2, 0, none⟩ : Addr).add 18) (.int .u64 V))) < (x2 [.int .i64 ((i + 1 + k : Nat) : Int), .int .i64 (k : Int)] h11) := fun V good ⟨m, em, lm⟩ => by
    rw [Addr.add_mk, Nat.zero_add, wk, wik, em]
    refine ⟨⟨_, M.H kn⟩, frozen_of M, ?_, ?_⟩
    · rw [hI2]
      refine ⟨k + 1, m, rfl, by omega, by omega, lm, M.setH kn, W.wr (own := [b2]) (Step.setCell M (by simp)) p1 p2 p3, fun H rest e => ?_⟩
      have := good H rest e
      rw [em] at this
      exact_mod_cast this
    · rw [hx2]
      show 16 - ((k + 1 : Nat) : Int).toNat < 16 - (k : Int).toNat
      omega
  have rdH : (h11.cell? ((⟨b2, 0, none⟩ : Addr).add 18)) = (some (.int .u64 (n : Int))) := by rw [Addr.add_mk, Nat.zero_add]; exact M.H kn
  have big : (16 : Nat) ^ 15 = 1152921504606846976 := by decide
  have f26 : 97 ≤ d.toNat → d.toNat ≤ 102 → ref21_Parse.k26 ((i + 1 + k : Nat) : Int) (str s) h11 b2 I2 (k : Int) x2 := fun q1 q2 => by
    unfold ref21_Parse.k26
    refine ⟨by omega, d, gd, (n : Int), rdH, step _ (fun H rest e => ?_) (wu64_any _)⟩
    obtain ⟨-, g2, g3⟩ := gdig H rest e
    rw [g2, uv_snoc, ← inv H rest e]
    rw [← inv H rest e, big] at g3
    have hve : hv d.toNat = (d.toNat : Int) - 87 := by unfold hv; rw [if_neg (by omega), if_pos (by omega)]
    rw [hve, IntKind.wrap_u64, IntKind.wrap_u64, IntKind.wrap_u64, IntKind.wrap_u64, IntKind.wrap_u8]
    omega
  have f27 : 48 ≤ d.toNat → d.toNat ≤ 57 → ref21_Parse.k27 h11 b2 I2 ((i + 1 + k : Nat) : Int) (k : Int) d x2 := fun q1 q2 => by
    unfold ref21_Parse.k27
    refine ⟨(n : Int), rdH, step _ (fun H rest e => ?_) (wu64_any _)⟩
    obtain ⟨-, g2, g3⟩ := gdig H rest e
    rw [g2, uv_snoc, ← inv H rest e]
    rw [← inv H rest e, big] at g3
    have hve : hv d.toNat = (d.toNat : Int) - 48 := by unfold hv; rw [if_pos (by omega)]
    rw [hve, IntKind.wrap_u64, IntKind.wrap_u64, IntKind.wrap_u64, IntKind.wrap_u8]
    omega
  have f30 : ¬ (48 ≤ d.toNat ∧ d.toNat ≤ 57) → ¬ (97 ≤ d.toNat ∧ d.toNat ≤ 102) → ref21_Parse.k30 h11 b2 I2 ((i + 1 + k : Nat) : Int) (k : Int) x2 := fun q1 q2 => by
    unfold ref21_Parse.k30
    refine ⟨(n : Int), rdH, step _ (fun H rest e => ?_) (wu64_any _)⟩
    obtain ⟨⟨x, hx, ex⟩, -⟩ := gdig H rest e
    have := hexc_rng hx
    rw [← ex] at this
    omega
  have f32 : ¬ (48 ≤ d.toNat ∧ d.toNat ≤ 57) → ref21_Parse.k32 ((i + 1 + k : Nat) : Int) (str s) h11 b2 I2 (k : Int) x2 := fun q => by
    unfold ref21_Parse.k32
    refine ⟨by omega, d, gd, bcase_intro (fun c1 => ?_) fun c1 => f30 q (by have := of_decide_eq_false c1; omega)⟩
    unfold ref21_Parse.k31
    refine ⟨by omega, d, gd, bcase_intro (fun c2 => f26 (by have := of_decide_eq_true c1; omega) (by have := of_decide_eq_true c2; omega)) fun c2 => f30 q (by have := of_decide_eq_false c2; omega)⟩
  unfold ref21_Parse.k34
  refine ⟨by omega, d, gd, bcase_intro (fun c1 => ?_) fun c1 => f32 (by have := of_decide_eq_false c1; omega)⟩
  have c1 : 48 ≤ d.toNat := by have := of_decide_eq_true c1; omega
  unfold ref21_Parse.k33
  refine ⟨by omega, d, gd, bcase_intro (fun c2 => ?_) fun c2 => f32 (by have := of_decide_eq_false c2; omega)⟩
  have c2 : d.toNat ≤ 57 := by have := of_decide_eq_true c2; omega
  unfold ref21_Parse.k29
  refine ⟨by omega, d, gd, by omega, d, gd, bcase_intro (fun c3 => by have := of_decide_eq_true c3; omega) fun _ => f27 c1 c2⟩
theorem eq_of_nat {d : UInt8} {k : UInt8} (e : ((d.toNat : Nat) : Int) = ((k.toNat : Nat) : Int)) : d = k := UInt8.toNat_inj.1 (by omega)
theorem rElem (w : PD h b0 L a c o h0) (ln : L.length ≤ 65) (hl : s.length < 100000) (hi : i < s.length) (nx : Nx h b0 L a c h0 i I0 x0 s) :
    ref21_Parse.k44 i (str s) h0 a L.length c I0 x0 := by
  obtain ⟨d, hd, dd⟩ := drop_at hi
  unfold ref21_Parse.k44
  refine ⟨by omega, d, str_get hd, trivial, fun b2 hb2 => ⟨rfl, by simp [cellish], freeM, ?_⟩⟩
  refine bcase_intro (fun q => ?_) fun q => ?_
  · have q : d = 33 := eq_of_nat (by simpa using q)
    subst q
    exact rItem w ln hl hi hb2 hd nx
  have q33 : d ≠ 33 := fun z => by subst z; cases q
  unfold ref21_Parse.k43
  refine bcase_intro (fun q => ?_) fun q => ?_
  · have q : d = 58 := eq_of_nat (by simpa using q)
    subst q
    exact rGuid w ln hl hi hb2 hd nx
  have q58 : d ≠ 58 := fun z => by subst z; cases q
  unfold ref21_Parse.k42
  refine bcase_intro (fun q => ?_) fun q => ?_
  · have q : d = 64 := eq_of_nat (by simpa using q)
    subst q
    exact rHex w ln hl hi hb2 hd nx
  have q64 : d ≠ 64 := fun z => by subst z; cases q
  unfold ref21_Parse.k41
  refine bcase_intro (fun q => ?_) fun q => ?_
  · have q : d = 46 := eq_of_nat (by simpa using q)
    subst q
    exact rDot w ln hl hi hb2 hd nx
  have q46 : d ≠ 46 := fun z => by subst z; cases q
  exact rElse w ln hl hi hb2 hd q33 q58 q64 q46 nx
end
end Go.Den.Mon
end

section
set_option linter.unusedVariables false
set_option maxRecDepth 100000
namespace Go.Den.Mon
open Go Go.Den
variable {h : Hp} {K : Value → Hp → Prop}
theorem txt1_ne {y : Raw} : txt1 y ≠ [] := by
  unfold txt1
  split
  · exact fun e => by cases e
  · split
    · exact fun e => by cases e
    · split
      · exact fun e => by cases e
      · exact fun e => by cases e
theorem txtOf_nil {M : List Raw} (e : txtOf M = []) : M = [] := by
  cases M with
  | nil => rfl
  | cons y M => exact absurd (List.append_eq_nil_iff.1 (show txt1 y ++ txtOf M = [] from e)).1 txt1_ne
theorem rParseM_spec {s : List UInt8} (hs : s.length < 100000)
    (good : ∀ M, canonL M → M.length ≤ 64 → s = txtOf M → ∀ y h', Got h' M y → Step [] h [] h' → K (.tuple #[.agg (mc y).toArray, .bool true]) h')
    (bad : (∀ M, canonL M → M.length ≤ 64 → s ≠ txtOf M) → ∀ h', Step [] h [] h' → K (.tuple #[.agg (mc nl).toArray, .bool false]) h') : HC P ref21_Parse.n #[.string (str s)] h K := by
  refine ref21_Parse.hc ?_
  unfold ref21_Parse
  intro b0 hb0
  obtain ⟨I0, hI0⟩ : ∃ I0 : List Value → Hp → Prop, I0 = fun vs hh => ∃ (i : Nat) (L : List Raw) (a : Option Addr) (c : Nat) (o : List Nat), vs = [.int .i64 (i : Int), .slice a L.length c] ∧ i ≤ s.length + 1 ∧ L.length ≤ 65 ∧ PD h b0 L a c o hh ∧ ∀ M, canonL M → M.length ≤ 64 → s = txtOf M → ∃ M2, M = L ++ M2 ∧ s.drop i = txtOf M2 := ⟨_, rfl⟩
  obtain ⟨x0, hx0⟩ : ∃ x0 : List Value → Hp → Nat, x0 = fun vs _ => match vs with | [.int _ i, _] => s.length + 2 - i.toNat | _ => 0 := ⟨_, rfl⟩
  refine ⟨I0, x0, ?_, ?_⟩
  · rw [hI0]
    exact ⟨0, [], none, 0, [], rfl, by omega, by simp, ⟨.none, put_self, by simp, hb0, Step.new hb0, by simp, by simp⟩, fun M _ _ e => ⟨M, rfl, e⟩⟩
  intro h0 n0 a0 n1 c0 hin
  rw [hI0] at hin
  obtain ⟨i, L, a, c, o, he, hi, hL, w, inv⟩ := hin
  have e1' : n0 = (i : Int) ∧ a0 = a ∧ n1 = L.length ∧ c0 = c := by cases he; exact ⟨rfl, rfl, rfl, rfl⟩
  clear he
  obtain ⟨rfl, rfl, rfl, rfl⟩ := e1'
  have fin : (s.length ≤ i ∨ 65 ≤ L.length) → ref21_Parse.k53 a0 L.length c0 h0 b0 K (str s) := fun hend => by
    refine rEnd w hL (fun M cM lM e => ?_) good bad
    obtain ⟨M2, e2, e3⟩ := inv M cM lM e
    rcases hend with q | q
    · rw [List.drop_eq_nil_of_le q] at e3
      rw [e2, txtOf_nil e3.symm, List.append_nil]
    · rw [e2, List.length_append] at lM
      omega
  rw [str_size]
  refine bcase_intro (fun hc => ?_) fun hc => fin (.inl (by have := of_decide_eq_false hc; omega))
  have hc : i < s.length := by have := of_decide_eq_true hc; omega
  unfold ref21_Parse.k54
  refine bcase_intro (fun h65 => ?_) fun h65 => fin (.inr (by have := of_decide_eq_false h65; omega))
  have h65 : L.length < 65 := by have := of_decide_eq_true h65; omega
  refine rElem w hL hs hc fun x i' l1 l2 gd a' c' o' h' w' => ⟨?_, ?_⟩
  · rw [hI0]
    refine ⟨i', L ++ [x], a', c', o', rfl, l2, by simp; omega, w', fun M cM lM e => ?_⟩
    obtain ⟨M2, e2, e3⟩ := inv M cM lM e
    cases M2 with
    | nil =>
      have := congrArg List.length e3
      rw [List.length_drop] at this
      simp [txtOf] at this
      omega
    | cons y M3 =>
      have cy : Cn y := by
        have := cM y (by rw [e2]; simp)
        exact Cn.of this.1 this.2.1 this.2.2.1 this.2.2.2
      obtain ⟨ex, er⟩ := gd y (txtOf M3) cy e3 stop_txt
      exact ⟨M3, by rw [e2, ex]; simp, er⟩
  · rw [hx0]
    show s.length + 2 - (i' : Int).toNat < s.length + 2 - (i : Int).toNat
    omega
end Go.Den.Mon
end

section
set_option linter.unusedVariables false
set_option maxRecDepth 100000
namespace Go.Den.Mon
open Go Go.Den
variable {h : Hp} {K : Value → Hp → Prop}
theorem txtOf_inj {L M : List Raw} (cL : canonL L) (cM : canonL M) (e : txtOf L = txtOf M) : M = L := by
  have w1 := Rd.complete (L := L) fun r hr => Cn.of (cL r hr).1 (cL r hr).2.1 (cL r hr).2.2.1 (cL r hr).2.2.2
  have w2 := Rd.complete (L := M) fun r hr => Cn.of (cM r hr).1 (cM r hr).2.1 (cM r hr).2.2.1 (cM r hr).2.2.2
  rw [e] at w1
  exact (w1.alike w2 rd_nil).1
theorem Got.ok {l : List Raw} {x : Raw} (g : Got h l x) : x.Ok := g.rt.ok
theorem parses_end (en : Env h) {l : List Raw} {x y : Raw} {h1 h2 : Hp} {b1 : Nat} {n : Int} {b : Bool} (s2 : Step [] h [] h2) (g1 : Got h2 l x) (M1 : MB h2 b1 x) (g2 : Got h2 l y) (e : (n = 0 ∧ b = true) ∨ (n = 18 ∧ b = false)) :
    law21_MonikerParses.k4 h2 (mc y).toArray b1 n b (Holds h) := by
  unfold law21_MonikerParses.k4
  intro b3 hb3
  have ky := g2.ok
  have S : Step [] h2 [] (h2.put b3 (.cells (mc y).toArray T.api_Moniker (0, 0))) := Step.put (.inr hb3)
  have M3 : MB (h2.put b3 (.cells (mc y).toArray T.api_Moniker (0, 0))) b3 y := put_self
  refine ⟨by simpa using mc_len ky, mc_cellish, freeM, ?_⟩
  rw [newM ky hb3]
  refine ⟨_, (M1.step S).all g1.ok, _, M3.all ky, (g1.step S).same (g2.step S) fun h3 s3 => ⟨_, rfl, ?_⟩⟩
  have aw : HC P law21_awake.n #[] h3 (fun v6 h4 => (∃ b5 : Bool, (v6 = (.bool b5)) ∧ Holds h (.bool b5) h4)) :=
    awake_spec (en.step ((s2.trans S).trans s3)) fun h4 s4 => ⟨_, rfl, rfl, ((s2.trans S).trans s3).trans s4⟩
  unfold law21_MonikerParses.k3
  refine bcT rfl ?_
  unfold law21_MonikerParses.k2
  rcases e with ⟨rfl, rfl⟩ | ⟨rfl, rfl⟩
  · refine bcT rfl ?_
    unfold law21_MonikerParses.k1
    exact bcT rfl aw
  · refine bcT rfl ?_
    unfold law21_MonikerParses.k1
    refine bcF rfl ?_
    unfold law21_MonikerParses.k0
    exact bcT rfl aw
theorem MonikerParses_holds (en : Env h) {s : ByteArray} : HC P law21_MonikerParses.n #[.string s] h (Holds h) := by
  refine law21_MonikerParses.hc ?_
  unfold law21_MonikerParses
  refine bcase_intro (fun _ => awake_spec en fun h4 s4 => ⟨_, rfl, rfl, s4⟩) fun q => ?_
  have q : s.size ≤ 20000 := by have := of_decide_eq_false q; omega
  rw [← str_self (s := s)] at q ⊢
  generalize s.data.toList = l at q ⊢
  rw [str_size] at q
  unfold law21_MonikerParses.k6
  -- both sides from one heap on
  have mid : ∀ {x : Raw} {n : Int} {L : List Raw} {h1 : Hp}, Step [] h [] h1 → Got h1 L x → (∀ {h1' h2 : Hp} {b1 : Nat}, Step [] h [] h1' → Got h1' L x → MB h1' b1 x → HC P ref21_Parse.n #[.string (str l)] h1' (fun v3 h2 => (∃ cs1 : Array Value, (∃ b2 : Bool, (v3 = (.tuple #[.agg cs1, .bool b2])) ∧ (law21_MonikerParses.k4 h2 cs1 b1 n b2 (Holds h)))))) → law21_MonikerParses.k5 h1 (mc x).toArray (str l) n (Holds h) := fun {x n L h1} s1 g hk => by
    unfold law21_MonikerParses.k5
    intro b1 hb1
    have kx := g.ok
    refine ⟨by simpa using mc_len kx, mc_cellish, freeM, ?_⟩
    rw [newM kx hb1]
    have S : Step [] h1 [] (h1.put b1 (.cells (mc x).toArray T.api_Moniker (0, 0))) := Step.put (.inr hb1)
    exact hk (h2 := h) (s1.trans S) (g.step S) put_self
  refine Parse_spec en (by omega) (fun L cL lL e x h1 g s1 => ⟨_, _, rfl, mid s1 g fun s1' g1 M1 => ?_⟩) fun no h1 s1 => ⟨_, _, rfl, mid s1 got_nl fun s1' g1 M1 => ?_⟩
  · refine rParseM_spec (by omega) (fun M cM lM eM y h2 g2 s2 => ⟨_, _, rfl, ?_⟩) fun no => absurd e (no L cL lL)
    have := txtOf_inj cL cM (e.symm.trans eM)
    subst this
    exact parses_end (h1 := h2) en (s1'.trans s2) (g1.step s2) (M1.step s2) g2 (.inl ⟨rfl, rfl⟩)
  · refine rParseM_spec (by omega) (fun M cM lM eM y h2 g2 s2 => absurd eM (no M cM lM)) fun _ h2 s2 => ⟨_, _, rfl, ?_⟩
    exact parses_end (h1 := h2) en (s1'.trans s2) (g1.step s2) (M1.step s2) (got_nl (h := h2)) (.inr ⟨rfl, rfl⟩)
end Go.Den.Mon
end

section
set_option linter.unusedVariables false
set_option maxRecDepth 100000
namespace Go.Den.Mon
open Go Go.Den Go.Proofs Go.Lib
theorem iface_cells {H : Type} {enc : TypeId × Value → H} {w : World} {base : Nat} {spare : Nat → Bool} {held : Bool} {fuel : Nat} {t : TypeId} {cs : List Value} {x : DataW H × List MemPlace} {ms : Array (String × TypeId)} (hi : P.underlying t = some (.interface ms))
    (h : DataW.trod enc P w base spare held fuel t cs = some x) : cs = [.nilIface] ∨ ∃ u v, cs = [.iface u v] := by
  cases fuel with
  | zero => simp [DataW.trod] at h
  | succ n =>
    unfold DataW.trod at h
    rw [hi] at h
    split at h <;> simp_all
def deb : List Int := [0, 1, 56, 2, 57, 49, 28, 3, 61, 58, 42, 50, 38, 29, 17, 4, 62, 47, 59, 36, 45, 43, 51, 22, 53, 39, 33, 30, 24, 18, 12, 5, 63, 55, 48, 27, 60, 41, 37, 16, 46, 35, 44, 21, 52, 32, 23, 11, 54, 26, 40, 15, 34, 20, 31, 10, 25, 14, 19, 9, 13, 8, 7, 6]
theorem env_reads {W : World} (r1 : VarReads P W "unicode/utf8.acceptRanges" Lib.acceptData) (r2 : VarReads P W "unicode.CaseRanges" Pinned.caseRanges) (r3 : VarReads P W "unicode/utf8.first" Pinned.utf8First)
    (r4 : VarReads P W "math/bits.deBruijn64tab" (tabData .u8 deb)) {F : DataW Unit} (r5 : VarReads P W "strconv.ErrSyntax" F) : Env (hp W) := by
  rw [Pinned.caseRanges_eq] at r2
  rw [Pinned.utf8First_eq] at r3
  have c := caseVar_of_reads (ρ := Tryz.lays159_ren) { Tryz.lays159 with } Tryz.lays159.t206 ⟨by kernel_rfl, by kernel_rfl, by kernel_rfl, by kernel_rfl, by kernel_rfl, by kernel_rfl⟩ r2
  have u := utf8Tabs_of_reads (ρ := Tryz.lays159_ren) { Tryz.lays159 with } ⟨by kernel_rfl, by kernel_rfl, by kernel_rfl, by kernel_rfl, by kernel_rfl, by kernel_rfl, by kernel_rfl⟩ r3 r1
  refine ⟨⟨W, c, u, Step.refl _ _⟩, ?_, ?_⟩
  · obtain ⟨g, t, cs, fuel, p, hg, hty, hvar, hd⟩ := r4
    obtain rfl := Option.some.inj ((show P.globalNamed "math/bits.deBruijn64tab" = some 8 by kernel_rfl).symm.trans hg)
    obtain rfl := Option.some.inj ((show (P.globals[8]?).map (·.type) = some 142 by kernel_rfl).symm.trans hty)
    have hcs := cells_of_tab (P := P) (n := 64) (e := 5) Go.Proofs.Tryz.underlying142 Go.Proofs.Tryz.underlying5 (by kernel_rfl) (by kernel_rfl) hd
    rw [hp_cell?, World.var?_cell hg hvar 15, ← Array.getElem?_toList, hcs]
    rfl
  · obtain ⟨g, t, cs, fuel, p, hg, hty, hvar, hd⟩ := r5
    obtain rfl := Option.some.inj ((show P.globalNamed "strconv.ErrSyntax" = some 1 by kernel_rfl).symm.trans hg)
    obtain rfl := Option.some.inj ((show (P.globals[1]?).map (·.type) = some 46 by kernel_rfl).symm.trans hty)
    have q := World.var?_cell hg hvar 0
    rw [← Array.getElem?_toList] at q
    rcases iface_cells Go.Proofs.Tryz.underlying46 hd with e | ⟨u, v, e⟩
    · rw [e] at q
      exact ⟨_, by rw [hp_cell?]; exact q, .inl rfl⟩
    · rw [e] at q
      exact ⟨_, by rw [hp_cell?]; exact q, .inr ⟨_, _, rfl⟩⟩
theorem env_of {W : World} {A B C D E F : DataW Unit} (hB : B = tabData .u8 deb) (hD : D = Lib.acceptData) (hn : ([("math/bits.deBruijn32tab", A), ("math/bits.deBruijn64tab", B), ("internal/strconv.uint64pow10", C), ("unicode/utf8.acceptRanges", D), ("strconv.ErrRange", E), ("strconv.ErrSyntax", F), ("unicode.CaseRanges", Pinned.caseRanges), ("unicode/utf8.first", Pinned.utf8First)].all fun x => x.2.handleName?.isNone) = true)
    (h : laidMetH P [("math/bits.deBruijn32tab", A), ("math/bits.deBruijn64tab", B), ("internal/strconv.uint64pow10", C), ("unicode/utf8.acceptRanges", D), ("strconv.ErrRange", E), ("strconv.ErrSyntax", F), ("unicode.CaseRanges", Pinned.caseRanges), ("unicode/utf8.first", Pinned.utf8First)] W) : Env (hp W) := by
  subst hB hD
  rw [MakeChecks.laidMetH_plain _ _ _ hn] at h
  exact env_reads (Lib.laidMet.reads h (n := "unicode/utf8.acceptRanges") (.tail _ (.tail _ (.tail _ (.head _))))) (Lib.laidMet.reads h (n := "unicode.CaseRanges") (.tail _ (.tail _ (.tail _ (.tail _ (.tail _ (.tail _ (.head _)))))))) (Lib.laidMet.reads h (n := "unicode/utf8.first") (.tail _ (.tail _ (.tail _ (.tail _ (.tail _ (.tail _ (.tail _ (.head _)))))))))
    (Lib.laidMet.reads h (n := "math/bits.deBruijn64tab") (.tail _ (.head _))) (Lib.laidMet.reads h (n := "strconv.ErrSyntax") (.tail _ (.tail _ (.tail _ (.tail _ (.tail _ (.head _)))))))
end Go.Den.Mon
end

section
set_option linter.unusedVariables false
set_option maxRecDepth 100000
namespace Go.Den.Mon
open Go Go.Den
variable {h : Hp}
theorem MonikerParses_said {s : ByteArray} (hs : s.size ≤ maxLen) (ht : Env h) : HC P law21_MonikerParses.n #[.string s] h (Holds h) := MonikerParses_holds ht
end Go.Den.Mon
end

