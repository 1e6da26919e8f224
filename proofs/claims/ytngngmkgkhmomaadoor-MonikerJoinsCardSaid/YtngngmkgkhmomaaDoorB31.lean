import Derived.Test.YtngngmkgkhmomaaDoorDenR
import Derived.PinnedBridge
import Derived.Lib.LaidCase
import Derived.LaidMore
/- Texts that the claim needs, joined. -/
section
set_option linter.unusedVariables false
set_option maxRecDepth 100000
namespace Go.Den.Mon
open Go Go.Den Go.ChangeShapes Go.WideShapes Go.ChangeAt Go.RowKit
theorem slices_in2 {H : Type} {enc : TypeId × Value → H} {P : Program} {W : World} {spare : Nat → Bool} {held : Bool} {fuel : Nat} {t e : TypeId} {sz : Nat} {sa : Option Addr} {len cap : Nat} {x : DataW H × List MemPlace}
    (ht : P.underlying t = some (.slice e)) (hc : P.cellsOf e = sz) (hz : 0 < sz) (h : DataW.trod enc P W 0 spare held fuel t [.slice sa len cap] = some x) :
    ∃ (rows : List (List Value)) (n : Nat), n < fuel ∧ len ≤ cap ∧ rows.length = len ∧ len < 9223372036854775808 ∧ (∀ r ∈ rows, r.length = sz) ∧ SrcAt (hp W) sz (.slice sa len cap) len rows.flatten ∧
      ∀ (i : Nat) (r : List Value), rows[i]? = some r → ∃ y, DataW.trod enc P W 0 spare held n e r = some y := by
  have f0 : 0 < fuel := by
    cases fuel with
    | zero => simp [DataW.trod] at h
    | succ n => omega
  rcases DataW.trod_slice ht h with ⟨hcs, hx⟩ | ⟨a, len', cap', elems, rest, n, hfn, hcs, _, hb, hl, hm, hlen, hel, hsp, hns⟩
  · simp at hcs
    obtain ⟨rfl, rfl, rfl⟩ := hcs
    exact ⟨[], 0, f0, Nat.le_refl _, rfl, by omega, by simp, .none, fun i v hv => by simp at hv⟩
  · simp at hcs
    obtain ⟨rfl, rfl, rfl⟩ := hcs
    have hM : maxLen = 9223372036854775807 := by decide
    have each : ∀ i, i < len → ∃ r y, W.cells? 0 (a.add (i * sz)) sz = some r ∧ r.length = sz ∧ (∀ j v, r[j]? = some v → W.cell? ((a.add (i * sz)).add j) = some v) ∧ DataW.trod enc P W 0 spare held n e r = some y := by
      intro i hi
      have := hel i hi
      rw [hc, List.getElem?_eq_getElem (by omega), Option.bind_eq_some_iff] at this
      obtain ⟨cs', hcs, hy⟩ := this
      obtain ⟨-, hl1, hc1⟩ := World.cells?_some hcs
      refine ⟨cs', _, hcs, hl1, fun j v hv => ?_, hy⟩
      have hj := (List.getElem?_eq_some_iff.1 hv).1
      rw [hc1 j (by omega), hv]
    have hget : ∀ {i : Nat} {r : List Value}, ((List.range len).map fun i => (W.cells? 0 (a.add (i * sz)) sz).getD [])[i]? = some r → i < len ∧ ∃ y, W.cells? 0 (a.add (i * sz)) sz = some r ∧ r.length = sz ∧ (∀ j v, r[j]? = some v → W.cell? ((a.add (i * sz)).add j) = some v) ∧ DataW.trod enc P W 0 spare held n e r = some y := by
      intro i r hr
      rw [List.getElem?_map] at hr
      cases hj : (List.range len)[i]? with
      | none => rw [hj] at hr; cases hr
      | some j =>
        obtain ⟨hlt, hj2⟩ := List.getElem?_eq_some_iff.1 hj
        rw [List.getElem_range] at hj2
        subst hj2
        rw [hj] at hr
        have hlt' : i < len := by simpa using hlt
        obtain ⟨r', y, h1, h2, h3, h4⟩ := each i hlt'
        rw [Option.map_some, h1, Option.getD_some] at hr
        cases hr
        exact ⟨hlt', y, h1, h2, h3, h4⟩
    have hsz : ∀ r ∈ (List.range len).map fun i => (W.cells? 0 (a.add (i * sz)) sz).getD [], r.length = sz := by
      intro r hr
      obtain ⟨i, hi⟩ := List.mem_iff_getElem?.1 hr
      obtain ⟨-, y, -, h2, -⟩ := hget hi
      exact h2
    refine ⟨(List.range len).map fun i => (W.cells? 0 (a.add (i * sz)) sz).getD [], n, by omega, hl, by simp, by omega, hsz, .some ⟨by rw [List.size_toArray, flatten_len hsz]; simp, fun j v hv => ?_⟩, fun i r hr => ?_⟩
    · rw [List.getElem?_toArray] at hv
      have hj : j = (j / sz) * sz + j % sz := by have := Nat.div_add_mod j sz; rw [Nat.mul_comm] at this; exact this.symm
      rw [hj, flatten_get hsz (Nat.mod_lt _ hz), Option.bind_eq_some_iff] at hv
      obtain ⟨r, hr, hv⟩ := hv
      obtain ⟨-, y, h1, h2, h3, h4⟩ := hget hr
      have := h3 _ _ hv
      rw [addr_add_add, ← hj] at this
      rw [hp_cell?]; exact this
    · obtain ⟨-, y, h1, h2, h3, h4⟩ := hget hr
      exact ⟨y, h4⟩
theorem deeps {h : Hp} : ∀ {rows : List (List Value)}, (∀ r ∈ rows, ∃ (x : Raw) (m : Mon), r = mc x ∧ Deep h x m) → ∃ (xs : List Raw) (ms : List Mon), xs.length = rows.length ∧ rows.flatten = mcs xs ∧ (∀ x ∈ xs, x.Ok) ∧ ms.length = xs.length ∧
    ∀ (i : Nat) (r : Raw) (m : Mon), xs[i]? = some r → ms[i]? = some m → Deep h r m
  | [], _ => ⟨[], [], rfl, rfl, by simp, rfl, by simp⟩
  | r :: rows, hr => by
    obtain ⟨x, m, rfl, d⟩ := hr r (by simp)
    obtain ⟨xs, ms, h1, h2, h3, h4, h5⟩ := deeps (rows := rows) fun q hq => hr q (by simp [hq])
    refine ⟨x :: xs, m :: ms, by simp [h1], by simp [h2, mcs], fun y hy => ?_, by simp [h4], fun i q n hq hn => ?_⟩
    · rcases List.mem_cons.1 hy with rfl | hy
      · exact d.ok
      · exact h3 y hy
    · cases i with
      | zero => simp at hq hn; subst hq; subst hn; exact d
      | succ i => exact h5 i q n (by simpa using hq) (by simpa using hn)
theorem cut5 {cs : List Value} (hl : cs.length = 20) {a b c d e : List Value} (h0 : (cs.drop 0).take 1 = a) (h1 : (cs.drop 1).take 16 = b) (h2 : (cs.drop 17).take 1 = c) (h3 : (cs.drop 18).take 1 = d) (h4 : (cs.drop 19).take 1 = e) : cs = a ++ (b ++ (c ++ (d ++ e))) := by
  subst h0 h1 h2 h3 h4
  have q4 : (cs.drop 19).take 1 = cs.drop 19 := List.take_of_length_le (by rw [List.length_drop]; omega)
  have q3 : (cs.drop 18).take 1 ++ cs.drop 19 = cs.drop 18 := by
    have := List.take_append_drop 1 (cs.drop 18); rwa [List.drop_drop] at this
  have q2 : (cs.drop 17).take 1 ++ cs.drop 18 = cs.drop 17 := by
    have := List.take_append_drop 1 (cs.drop 17); rwa [List.drop_drop] at this
  have q1 : (cs.drop 1).take 16 ++ cs.drop 17 = cs.drop 1 := by
    have := List.take_append_drop 16 (cs.drop 1); rwa [List.drop_drop] at this
  rw [q4, q3, q2, q1, List.drop_zero, List.take_append_drop]
theorem deep_of {H : Type} {enc : TypeId × Value → H} {W : World} {spare : Nat → Bool} {held : Bool} (fuel : Nat) : ∀ {cs : List Value} {y : DataW H × List MemPlace}, DataW.trod enc P W 0 spare held fuel T.api_Moniker cs = some y →
    ∃ (x : Raw) (rows : List Raw) (m : Mon), cs = mc x ∧ Top (hp W) x rows m ∧ x.sn ≤ x.sc := by
  induction fuel using Nat.strongRecOn with
  | ind fuel ih =>
    intro cs y ht
    obtain ⟨xs, n, hn, -, hlen, hxs, hf⟩ := DataW.trod_struct Go.Proofs.Tryd.underlying27 ht
    have hlen : cs.length = 20 := by rw [hlen]; kernel_rfl
    have hxs : xs.length = 5 := hxs
    have f0 := hf 0 _ rfl
    have f1 := hf 1 _ rfl
    have f2 := hf 2 _ rfl
    have f3 := hf 3 _ rfl
    have f4 := hf 4 _ rfl
    rw [List.getElem?_eq_getElem (by omega)] at f0 f1 f2 f3 f4
    have c3 : P.cellsOf 3 = 1 := by kernel_rfl
    have c23 : P.cellsOf 23 = 16 := by kernel_rfl
    have c9 : P.cellsOf 9 = 1 := by kernel_rfl
    have c24 : P.cellsOf 24 = 1 := by kernel_rfl
    have c25 : P.cellsOf 25 = 1 := by kernel_rfl
    change DataW.trod enc P W 0 spare held n 3 ((cs.drop 0).take (P.cellsOf 3)) = _ at f0
    change DataW.trod enc P W 0 spare held n 23 ((cs.drop 1).take (P.cellsOf 23)) = _ at f1
    change DataW.trod enc P W 0 spare held n 9 ((cs.drop 17).take (P.cellsOf 9)) = _ at f2
    change DataW.trod enc P W 0 spare held n 24 ((cs.drop 18).take (P.cellsOf 24)) = _ at f3
    change DataW.trod enc P W 0 spare held n 25 ((cs.drop 19).take (P.cellsOf 25)) = _ at f4
    rw [c3] at f0; rw [c23] at f1; rw [c9] at f2; rw [c24] at f3; rw [c25] at f4
    obtain ⟨k, e0, -, w0⟩ := DataW.trod_int (k := .i64) (by kernel_rfl) f0
    obtain ⟨g, e1', g1, g2⟩ := bytes_of (flat_of 9 (ks := List.replicate 16 (.int .u8)) (by kernel_rfl) f1)
    obtain ⟨s, e2, -, w2⟩ := DataW.trod_string (by kernel_rfl) f2
    obtain ⟨u, e3, -, w3⟩ := DataW.trod_int (k := .u64) (by kernel_rfl) f3
    obtain ⟨u', rfl, hu⟩ := wf_u64 w3
    obtain ⟨sa, sn, sc, e4⟩ : ∃ sa sn sc, (cs.drop 19).take 1 = [.slice sa sn sc] := by
      rcases DataW.trod_slice Go.Proofs.Tryd.underlying25 f4 with ⟨q, -⟩ | ⟨a, l, c, -, -, -, -, q, -⟩
      · exact ⟨_, _, _, q⟩
      · exact ⟨_, _, _, q⟩
    rw [e4] at f4
    obtain ⟨rws, n', hn', hcap, h1, h2, h3, h4, h5⟩ := slices_in2 (sz := 20) Go.Proofs.Tryd.underlying25 (by kernel_rfl) (by omega) f4
    obtain ⟨rows, ms, r1, r2, r3, r4, r5⟩ := deeps (h := hp W) (rows := rws) fun r hr => by
      obtain ⟨i, hi⟩ := List.mem_iff_getElem?.1 hr
      obtain ⟨y', hy'⟩ := h5 i r hi
      obtain ⟨x, rows', m, e, t, -⟩ := ih n' (by omega) hy'
      exact ⟨x, m, e, t.deep⟩
    have ok : (⟨k, g, s, u', sa, sn, sc⟩ : Raw).Ok := ⟨⟨g1, g2⟩, hu, wf_i64 w0, by
      have : maxLen = 9223372036854775807 := rfl
      show s.size ≤ _; omega⟩
    rw [r2] at h4
    refine ⟨⟨k, g, s, u', sa, sn, sc⟩, rows, _, ?_, ⟨.mk (x := ⟨k, g, s, u', sa, sn, sc⟩) ok h2 (by rw [r1, h1]) h4 r3 r4 r5, h4, r3, by rw [r1, h1]⟩, hcap⟩
    rw [cut5 hlen e0 e1' e2 e3 e4]
    rfl
/-- A moniker that is handed in. -/
theorem mon_in {H : Type} {enc : TypeId × Value → H} {W : World} {base : Nat} {r : Reach} {spare : Nat → Bool} {held : Bool} {v : Value} {d : DataW H} {p : List MemPlace}
    (hval : Value.okWide P W r base T.api_Moniker v) (h : DataW.Trod enc P W 0 spare held T.api_Moniker v d p) : ∃ (x : Raw) (rows : List Raw) (m : Mon), v = .agg (mc x).toArray ∧ Top (hp W) x rows m ∧ x.sn ≤ x.sc := by
  obtain ⟨fuel, hf⟩ := h
  unfold Value.okWide at hval
  rw [show P.underlying T.api_Moniker = _ from Go.Proofs.Tryd.underlying27] at hval
  obtain ⟨cs, rfl, -⟩ := hval
  obtain ⟨x, rows, m, e, t, hc⟩ := deep_of fuel hf
  exact ⟨x, rows, m, by rw [← e]; rfl, t, hc⟩
end Go.Den.Mon
end

section
set_option linter.unusedVariables false
set_option maxRecDepth 100000
namespace Go.Den.Mon
open Go Go.Den Go.Proofs Go.Lib
theorem iface_cells {H : Type} {enc : TypeId × Value → H} {w : World} {base : Nat} {spare : Nat → Bool} {held : Bool} {fuel : Nat} {t : TypeId} {cs : List Value} {x : DataW H × List MemPlace} {ms : Array (String × TypeId)} (hi : P.underlying t = some (.interface ms))
    (h : DataW.trod enc P w base spare held fuel t cs = some x) : cs = [.nilIface] ∨ ∃ u v, cs = [.iface u v] := by
  cases fuel with
  | zero => simp [DataW.trod] at h
  | succ n =>
    unfold DataW.trod at h
    rw [hi] at h
    split at h <;> simp_all
def deb : List Int := [0, 1, 56, 2, 57, 49, 28, 3, 61, 58, 42, 50, 38, 29, 17, 4, 62, 47, 59, 36, 45, 43, 51, 22, 53, 39, 33, 30, 24, 18, 12, 5, 63, 55, 48, 27, 60, 41, 37, 16, 46, 35, 44, 21, 52, 32, 23, 11, 54, 26, 40, 15, 34, 20, 31, 10, 25, 14, 19, 9, 13, 8, 7, 6]
theorem env_reads {W : World} (r1 : VarReads P W "unicode/utf8.acceptRanges" Lib.acceptData) (r2 : VarReads P W "unicode.CaseRanges" Pinned.caseRanges) (r3 : VarReads P W "unicode/utf8.first" Pinned.utf8First)
    (r4 : VarReads P W "math/bits.deBruijn64tab" (tabData .u8 deb)) {F : DataW Unit} (r5 : VarReads P W "strconv.ErrSyntax" F) : Env (hp W) := by
  rw [Pinned.caseRanges_eq] at r2
  rw [Pinned.utf8First_eq] at r3
  have c := caseVar_of_reads (ρ := Tryd.lays159_ren) { Tryd.lays159 with } Tryd.lays159.t206 ⟨by kernel_rfl, by kernel_rfl, by kernel_rfl, by kernel_rfl, by kernel_rfl, by kernel_rfl⟩ r2
  have u := utf8Tabs_of_reads (ρ := Tryd.lays159_ren) { Tryd.lays159 with } ⟨by kernel_rfl, by kernel_rfl, by kernel_rfl, by kernel_rfl, by kernel_rfl, by kernel_rfl, by kernel_rfl⟩ r3 r1
  refine ⟨⟨W, c, u, Step.refl _ _⟩, ?_, ?_⟩
  · obtain ⟨g, t, cs, fuel, p, hg, hty, hvar, hd⟩ := r4
    obtain rfl := Option.some.inj ((show P.globalNamed "math/bits.deBruijn64tab" = some 8 by kernel_rfl).symm.trans hg)
    obtain rfl := Option.some.inj ((show (P.globals[8]?).map (·.type) = some 142 by kernel_rfl).symm.trans hty)
    have hcs := cells_of_tab (P := P) (n := 64) (e := 5) Go.Proofs.Tryd.underlying142 Go.Proofs.Tryd.underlying5 (by kernel_rfl) (by kernel_rfl) hd
    rw [hp_cell?, World.var?_cell hg hvar 15, ← Array.getElem?_toList, hcs]
    rfl
  · obtain ⟨g, t, cs, fuel, p, hg, hty, hvar, hd⟩ := r5
    obtain rfl := Option.some.inj ((show P.globalNamed "strconv.ErrSyntax" = some 2 by kernel_rfl).symm.trans hg)
    obtain rfl := Option.some.inj ((show (P.globals[2]?).map (·.type) = some 58 by kernel_rfl).symm.trans hty)
    have q := World.var?_cell hg hvar 0
    rw [← Array.getElem?_toList] at q
    rcases iface_cells Go.Proofs.Tryd.underlying58 hd with e | ⟨u, v, e⟩
    · rw [e] at q
      exact ⟨_, by rw [hp_cell?]; exact q, .inl rfl⟩
    · rw [e] at q
      exact ⟨_, by rw [hp_cell?]; exact q, .inr ⟨_, _, rfl⟩⟩
theorem env_of {W : World} {A B C D E F : DataW Unit} (hB : B = tabData .u8 deb) (hD : D = Lib.acceptData) (hn : ([("math/bits.deBruijn32tab", A), ("math/bits.deBruijn64tab", B), ("internal/strconv.uint64pow10", C), ("unicode/utf8.acceptRanges", D), ("strconv.ErrRange", E), ("strconv.ErrSyntax", F), ("unicode.CaseRanges", Pinned.caseRanges), ("unicode/utf8.first", Pinned.utf8First)].all fun x => x.2.handleName?.isNone) = true)
    (h : laidMetH P [("math/bits.deBruijn32tab", A), ("math/bits.deBruijn64tab", B), ("internal/strconv.uint64pow10", C), ("unicode/utf8.acceptRanges", D), ("strconv.ErrRange", E), ("strconv.ErrSyntax", F), ("unicode.CaseRanges", Pinned.caseRanges), ("unicode/utf8.first", Pinned.utf8First)] W) : Env (hp W) := by
  subst hB hD
  rw [MakeChecks.laidMetH_plain _ _ _ hn] at h
  exact env_reads (Lib.laidMet.reads h (n := "unicode/utf8.acceptRanges") (.tail _ (.tail _ (.tail _ (.head _))))) (Lib.laidMet.reads h (n := "unicode.CaseRanges") (.tail _ (.tail _ (.tail _ (.tail _ (.tail _ (.tail _ (.head _)))))))) (Lib.laidMet.reads h (n := "unicode/utf8.first") (.tail _ (.tail _ (.tail _ (.tail _ (.tail _ (.tail _ (.tail _ (.head _)))))))))
    (Lib.laidMet.reads h (n := "math/bits.deBruijn64tab") (.tail _ (.head _))) (Lib.laidMet.reads h (n := "strconv.ErrSyntax") (.tail _ (.tail _ (.tail _ (.tail _ (.tail _ (.head _)))))))
end Go.Den.Mon
end

section
set_option linter.unusedVariables false
set_option maxRecDepth 100000
namespace Go.Den.Mon
open Go Go.Den
variable {h : Hp} {K : Value → Hp → Prop}
theorem Deep.leaf {r : Raw} {m : Mon} (d : Deep h r m) (h0 : r.sn = 0) : m = leaf r := by
  cases d with
  | @mk _ rows ms _ _ hl _ _ hm _ =>
    have : ms = [] := List.length_eq_zero_iff.1 (by omega)
    subst this
    rfl
end Go.Den.Mon
end

section
set_option linter.unusedVariables false
set_option maxRecDepth 100000
namespace Go.Den.Mon
open Go Go.Den
variable {h : Hp} {K : Value → Hp → Prop}
/-! ### In plain words -/
/-! ### Right ones -/
def Rt (h : Hp) (l : List Raw) (x : Raw) : Prop := ∃ rows m, Top h x rows m ∧ partsOf x rows = l ∧ rright x rows = true
section
variable {h' : Hp} {l l' : List Raw} {x y : Raw}
theorem Got.rt (g : Got h l x) : Rt h l x := by obtain ⟨rows, t, a, b⟩ := g; exact ⟨rows, _, t, a, b⟩
theorem Rt.step (g : Rt h l x) (s : Step [] h [] h') : Rt h' l x := by obtain ⟨rows, m, t, a, b⟩ := g; exact ⟨rows, m, t.step s, a, b⟩
theorem Rt.ok (g : Rt h l x) : x.Ok := by obtain ⟨rows, m, t, a, b⟩ := g; exact t.deep.ok
theorem Rt.len (g : Rt h l x) : l.length ≤ 64 := by obtain ⟨rows, m, t, a, b⟩ := g; rw [← a]; exact parts_len t b
theorem got_nl : Got h [] nl := ⟨[], ⟨nl_deep, .none, by simp, rfl⟩, rfl, by unfold rright; rw [if_pos (show nl.kind = 0 from rfl)]; exact decide_eq_true ⟨rfl, rfl, rfl, rfl⟩⟩
theorem Got.same (g : Got h l x) (g' : Got h l y) (hk : ∀ h', Step [] h [] h' → K (.bool true) h') : HC P ref21_Same.n #[.agg (mc x).toArray, .agg (mc y).toArray] h K := by
  obtain ⟨rows, t, -, -⟩ := g
  obtain ⟨rows', t', -, -⟩ := g'
  refine rSame_spec t.deep h y _ _ (Step.refl _ _) t'.deep fun r h2 hr s2 => ?_
  rw [hr.2 rfl]; exact hk h2 s2
end
/-- A result laid in a block of the law's own. -/
structure Held (hh : Hp) (b : Nat) (l : List Raw) (x : Raw) : Prop where
  M : MB hh b x
  g : Got hh l x
section
variable {h' : Hp} {l l' : List Raw} {x y : Raw} {b : Nat}
theorem Held.step (w : Held h b l x) (s : Step [] h [] h') : Held h' b l x := ⟨w.M.step s, w.g.step s⟩
theorem Held.all (w : Held h b l x) : CellsAt h ⟨b, 0, none⟩ 20 (mc x).toArray := w.M.all w.g.rt.ok
theorem Held.new (g : Got h l x) (hb : h b = none) : Held (h.put b (.cells (mc x).toArray T.api_Moniker (0, 0))) b l x ∧ Step [] h [] (h.put b (.cells (mc x).toArray T.api_Moniker (0, 0))) :=
  ⟨⟨put_self, g.step (Step.put (.inr hb))⟩, Step.put (.inr hb)⟩
end
/-- What a law of right monikers keeps. -/
structure Kp (h hh : Hp) : Prop where
  E : Env hh
  st : Step [] h [] hh
theorem Kp.step {hh h' : Hp} (w : Kp h hh) (s : Step [] hh [] h') : Kp h h' := ⟨w.E.step s, w.st.trans s⟩
theorem Kp.aw {hh : Hp} (w : Kp h hh) : HC P law21_awake.n #[] hh (fun v h3 => (∃ b2 : Bool, (v = (.bool b2)) ∧ Holds h (.bool b2) h3)) := awake_spec w.E fun h3 s3 => ⟨true, rfl, rfl, w.st.trans s3⟩
end Go.Den.Mon
end

section
set_option linter.unusedVariables false
set_option maxRecDepth 100000
namespace Go.Den.Mon
open Go Go.Den
variable {h : Hp} {K : Value → Hp → Prop}
/-- What a heap of the law holds: both monikers, and three results. -/
structure JH (h : Hp) (x y : Raw) (rx ry : List Raw) (mx my : Mon) (b0 b1 b5 b6 b7 : Nat) (ab r v : Raw) (hh : Hp) : Prop where
  a : Own h x rx mx b0 hh
  b : Own h y ry my b1 hh
  m5 : MB hh b5 ab
  m6 : MB hh b6 r
  m7 : MB hh b7 v
section
variable {x y : Raw} {rx ry : List Raw} {mx my : Mon} {b0 b1 b5 b6 b7 : Nat} {ab r v : Raw} {hh h' : Hp}
theorem JH.step (w : JH h x y rx ry mx my b0 b1 b5 b6 b7 ab r v hh) (s : Step [] hh [] h') : JH h x y rx ry mx my b0 b1 b5 b6 b7 ab r v h' :=
  ⟨w.a.step s, w.b.step s, w.m5.step s, w.m6.step s, w.m7.step s⟩
theorem joins_k0 (w : JH h x y rx ry mx my b0 b1 b5 b6 b7 ab r v hh) : law21_MonikerJoins.k0 true hh (Holds h) := by
  unfold law21_MonikerJoins.k0
  exact bcT rfl w.a.aw
/-- What b12 is written over with. -/
theorem JH.wr {g : Hp} {b12 : Nat} {z0 y1 : Raw} {h24 : Hp} {o : List Nat} (TT : Step [] g (o ++ [b12]) hh) (V : MB hh b12 z0) (kz : z0.Ok) (ky : y1.Ok) (s : Step [] hh [] h24) :
    h24.setCells ⟨b12, 0, none⟩ (mc y1).toArray = h24.put b12 (.cells (mc y1).toArray T.api_Moniker (0, 0)) ∧ Free h24 ⟨b12, 0, none⟩ 20 ∧ Step [] g [b12] (h24.put b12 (.cells (mc y1).toArray T.api_Moniker (0, 0))) := by
  have V2 := V.step s
  refine ⟨setCells_blk V2 (by simp [mc_len kz, mc_len ky]), free_blk V2 (by simp [mc_len kz]), ?_⟩
  have T2 : Step [] g (o ++ [b12]) (h24.put b12 (.cells (mc y1).toArray T.api_Moniker (0, 0))) := (TT.trans (by simpa using s.frame (o ++ [b12]))).trans (Step.put (.inl (by simp)))
  exact T2.weak (fun _ z => z) fun q hq => .inl (by simp at hq; simp [hq])
/-- Of the row's parts the document's moniker, written into b12. -/
theorem joins_k16 {g : Hp} {b12 : Nat} {l : List Raw} {z0 : Raw} {n0 : Int} {a : Option Addr} {c : Nat} {o : List Nat} (w : JH h x y rx ry mx my b0 b1 b5 b6 b7 ab r v g) (TT : Step [] g (o ++ [b12]) hh) (V : MB hh b12 z0) (kz : z0.Ok)
    (kab : ab.Ok) (sl : SlAt hh T.api_Moniker 20 AnyV a l.length c (mcs l) o) (no : b12 ∉ o) (ok : ∀ q ∈ l, q.Ok) (rp : ∀ q ∈ l, rpart q = true) (out : (n0 = 0 ∧ l.length ≤ 64 ∧ Got g l ab) ∨ (n0 = 20 ∧ 64 < l.length ∧ ab = nl)) :
    law21_MonikerJoins.k16 a l.length c hh b12 n0 b5 (Holds h) := by
  unfold law21_MonikerJoins.k16
  refine rOf_got sl.src ok (fun le h24 s => ⟨_, _, rfl, by simpa using mc_len (ofRaw_ok ok), ?_⟩) fun gt h24 s => ⟨_, _, rfl, by simpa using mc_len nl_ok, ?_⟩
  · obtain ⟨rfl, -, gab⟩ := out.resolve_right (by omega)
    have ky := ofRaw_ok (a := a) (c := c) ok
    obtain ⟨e1', e2', S⟩ := JH.wr TT V kz ky s
    have wG := w.step S.forget0
    unfold law21_MonikerJoins.k15
    refine ⟨mc_cellish, e2', bcF rfl ?_⟩
    unfold law21_MonikerJoins.k14
    refine bcT rfl ?_
    unfold law21_MonikerJoins.k13
    rw [e1']
    have MY : MB (h24.put b12 (.cells (mc (ofRaw a c l)).toArray T.api_Moniker (0, 0))) b12 (ofRaw a c l) := put_self
    refine ⟨_, wG.m5.all kab, _, MY.all ky, Got.same (l := l) (gab.step S.forget0) (got_of ?_ ok rp le) fun h26 s26 => ⟨_, rfl, joins_k0 (wG.step s26)⟩⟩
    exact (sl.keep fun q hq => by rw [put_ne fun z => no (by rw [← z]; exact hq)]; exact s.keep q (sl.mem q hq) (by simp)).src
  · obtain ⟨rfl, -, rfl⟩ := out.resolve_left (by omega)
    obtain ⟨e1', e2', S⟩ := JH.wr TT V kz nl_ok s
    have wG := w.step S.forget0
    unfold law21_MonikerJoins.k15
    refine ⟨mc_cellish, e2', bcT rfl ?_⟩
    unfold law21_MonikerJoins.k12
    refine bcT rfl ?_
    unfold law21_MonikerJoins.k11
    rw [e1']
    exact ⟨_, wG.m5.all kab, trivial, Got.same (x := nl) (y := nl) got_nl got_nl fun h25 s25 => ⟨_, rfl, joins_k0 (wG.step s25)⟩⟩
theorem own_new {g hh' : Hp} {o o' : List Nat} {b : Nat} (s : Step o hh o' hh') (hb : hh b ≠ none) (no : b ∉ o) : b ∉ o' := fun q => by
  rcases s.own b q with z | z
  · exact no z
  · exact hb z
theorem joins_k19 {g : Hp} {b12 : Nat} {A : List Raw} {z0 : Raw} {n0 : Int} {a : Option Addr} {c : Nat} {o : List Nat} (w : JH h x y rx ry mx my b0 b1 b5 b6 b7 ab r v g) (TT : Step [] g (o ++ [b12]) hh) (V : MB hh b12 z0) (kz : z0.Ok)
    (kab : ab.Ok) (sl : SlAt hh T.api_Moniker 20 AnyV a A.length c (mcs A) o) (no : b12 ∉ o) (okA : ∀ q ∈ A, q.Ok) (rpA : ∀ q ∈ A, rpart q = true) (lA : A.length ≤ 64) (rb : rright y ry = true)
    (out : (n0 = 0 ∧ (red (red [] A) (partsOf y ry)).length ≤ 64 ∧ Got g (red (red [] A) (partsOf y ry)) ab) ∨ (n0 = 20 ∧ 64 < (red (red [] A) (partsOf y ry)).length ∧ ab = nl)) :
    law21_MonikerJoins.k19 hh b1 (mc y).toArray a A.length c b12 n0 b5 (Holds h) := by
  have wh := w.step TT.forget0
  have okB : ∀ q ∈ partsOf y ry, q.Ok := fun q hq => prt_ok wh.b.T q (by rw [prt_right rb]; exact hq)
  have rpB := parts_rp rb
  have lB := parts_len wh.b.T rb
  unfold law21_MonikerJoins.k19
  refine ⟨⟨_, wh.b.all, rfl⟩, rParts_spec wh.b.T fun a6 n11 c6 h21 hn src s21 => ⟨_, _, _, rfl, ?_⟩⟩
  subst hn
  have sl1 := sl.keep fun q hq => s21.keep q (sl.mem q hq) (by simp)
  have V1 := V.step s21
  have T1 : Step [] g (o ++ [b12]) h21 := TT.trans (by simpa using s21.frame (o ++ [b12]))
  generalize partsOf y ry = B at *
  unfold law21_MonikerJoins.k18
  refine append_wp (P := P) (Z := AnyV) (n := B.length) slMon slMon.1 sl1 (fun _ _ _ _ _ _ => trivial) src mcs_cellish (by omega) fun a7 c7 o7 h22 sl7 _ s22 => ⟨_, _, _, rfl, ?_⟩
  have eAB : mcs A ++ mcs B = mcs (A ++ B) := by simp [mcs]
  have lAB : A.length + B.length = (A ++ B).length := by simp
  rw [eAB, lAB] at sl7
  rw [lAB]
  have no7 : b12 ∉ o7 := own_new (g := g) s22 (by rw [V1]; simp) no
  have V2 : MB h22 b12 z0 := by show _ = _; rw [s22.keep b12 (by rw [V1]; simp) no]; exact V1
  have T2 : Step [] g (o7 ++ [b12]) h22 := T1.trans (s22.frame [b12])
  have okAB : ∀ q ∈ A ++ B, q.Ok := fun q hq => (List.mem_append.1 hq).elim (okA q) (okB q)
  unfold law21_MonikerJoins.k17
  refine rReduced_spec sl7.src okAB rfl (by simp; omega) fun a8 c8 o8 h23 sl8 ok8 s23 => ⟨_, _, _, rfl, ?_⟩
  have V3 : MB h23 b12 z0 := s23.keepB0 V2
  have no8 : b12 ∉ o8 := own_new (g := g) s23 (by rw [V2]; simp) (by simp)
  have T3 : Step [] g (o8 ++ [b12]) h23 := (T2.trans (s23.frame (o7 ++ [b12]))).weak (fun _ z => z) fun q hq => .inl (by simp at hq ⊢; rcases hq with z | z <;> simp [z])
  rw [red_append] at sl8 ok8 ⊢
  exact joins_k16 w T3 V3 kz kab sl8 no8 ok8 (red_rp (red_rp (by simp) rpA) rpB) out
theorem joins_k25 {g : Hp} {b12 : Nat} {z0 : Raw} {n0 : Int} (w : JH h x y rx ry mx my b0 b1 b5 b6 b7 ab r v g) (TT : Step [] g [b12] hh) (V : MB hh b12 z0) (kz : z0.Ok) (kab : ab.Ok) (ra : rright x rx = true)
    (bad : rright y ry = false → n0 = 5) (out : rright y ry = true → (n0 = 0 ∧ (red (red [] (partsOf x rx)) (partsOf y ry)).length ≤ 64 ∧ Got g (red (red [] (partsOf x rx)) (partsOf y ry)) ab) ∨ (n0 = 20 ∧ 64 < (red (red [] (partsOf x rx)) (partsOf y ry)).length ∧ ab = nl)) :
    law21_MonikerJoins.k25 true (Holds h) hh b1 n0 b0 b12 b5 := by
  unfold law21_MonikerJoins.k25
  refine bcF rfl ?_
  have wh := w.step TT.forget0
  unfold law21_MonikerJoins.k24
  refine ⟨_, wh.b.all, rRight_spec wh.b.T fun h17 s17 => ⟨_, rfl, ?_⟩⟩
  have w17 := wh.step s17
  have V17 := V.step s17
  have T17 : Step [] g [b12] h17 := TT.trans (by simpa using s17.frame [b12])
  unfold law21_MonikerJoins.k23
  cases rb : rright y ry with
  | false =>
    refine bcT rfl ?_
    unfold law21_MonikerJoins.k10
    rw [bad rb]
    exact bcT rfl w17.a.aw
  | true =>
    refine bcF rfl ?_
    have okA : ∀ q ∈ partsOf x rx, q.Ok := fun q hq => prt_ok w17.a.T q (by rw [prt_right ra]; exact hq)
    have rpA := parts_rp ra
    have lA := parts_len w17.a.T ra
    have out := out rb
    -- the copy of the first one's parts
    have app : ∀ {b : Nat} {a4 : Option Addr} {c4 : Nat} {h19 : Hp}, h19 b = some (.cells #[] T.api_Moniker (0, 0)) → Step [] g ([b] ++ [b12]) h19 → MB h19 b12 z0 → b12 ≠ b → SrcAt h19 20 (.slice a4 (partsOf x rx).length c4) (partsOf x rx).length (mcs (partsOf x rx)) →
        wpSem P (Builtin.append_ #[T.sl_api_Moniker, T.sl_api_Moniker] T.sl_api_Moniker #[.slice (some ⟨b, 0, none⟩) 0 0, .slice a4 (partsOf x rx).length c4]) (fun v25 h20 => (∃ a5 : Option Addr, (∃ n10 : Nat, (∃ c5 : Nat, (v25 = (.slice a5 n10 c5)) ∧ (law21_MonikerJoins.k19 h20 b1 (mc y).toArray a5 n10 c5 b12 n0 b5 (Holds h)))))) h19 := fun {b a4 c4 h19} hb t1 v1 nb src => by
      refine append_wp (P := P) (Z := AnyV) (vs := []) (o := [b]) (cs := mcs (partsOf x rx)) (n := (partsOf x rx).length) slMon slMon.1 (.some (pre := []) (rest := []) (post := []) (by rw [hb]; rfl) rfl (by simp) (by simp) (Nat.le_refl _) (by simp)) (fun _ _ _ _ _ _ => trivial) src mcs_cellish (by omega) fun a5 c5 o5 h20 s5 _ st5 => ⟨_, _, _, rfl, ?_⟩
      rw [Nat.zero_add] at s5 ⊢
      have no : b12 ∉ o5 := own_new (g := g) st5 (by rw [v1]; simp) (by simpa using nb)
      have V5 : MB h20 b12 z0 := by show _ = _; rw [st5.keep b12 (by rw [v1]; simp) (by simpa using nb)]; exact v1
      exact joins_k19 w (t1.trans (st5.frame [b12])) V5 kz kab (by simpa using s5) no okA rpA lA rb out
    unfold law21_MonikerJoins.k22
    refine ⟨_, w17.a.all, _, w17.b.all, fun b19 hb19 => ?_, ?_⟩
    · have n12 : b12 ≠ b19 := fun z => by rw [← z, V17] at hb19; cases hb19
      have S19 : Step [] h17 [] (h17.put b19 (.cells #[] T.api_Moniker (0, 0))) := Step.put (.inr hb19)
      have w19 := w17.step S19
      refine ⟨⟨_, w19.b.all, rfl⟩, rParts_spec w19.a.T fun a4 n9 c4 h19 hn src s => ⟨_, _, _, rfl, ?_⟩⟩
      subst hn
      have w20 := w19.step s
      have t1 : Step [] g ([b19] ++ [b12]) h19 := by
        have t0 : Step [] g ([b19] ++ [b12]) (h17.put b19 (.cells #[] T.api_Moniker (0, 0))) := T17.trans (Step.new hb19)
        exact t0.trans (by simpa using s.frame ([b19] ++ [b12]))
      unfold law21_MonikerJoins.k20
      exact ⟨⟨_, w20.b.all, rfl⟩, app (s.keepB0 put_self) t1 ((V17.step S19).step s) n12 src⟩
    · refine rParts_spec w17.a.T fun a4 n9 c4 h27 hn src s => ⟨_, _, _, rfl, ?_⟩
      subst hn
      have w27 := w17.step s
      unfold law21_MonikerJoins.k21
      refine ⟨⟨_, w27.b.all, rfl⟩, fun b23 hb23 => ?_⟩
      have V27 := V17.step s
      have n12 : b12 ≠ b23 := fun z => by rw [← z, V27] at hb23; cases hb23
      have S23 : Step [] h27 [] (h27.put b23 (.cells #[] T.api_Moniker (0, 0))) := Step.put (.inr hb23)
      have t1 : Step [] g ([b23] ++ [b12]) (h27.put b23 (.cells #[] T.api_Moniker (0, 0))) := (T17.trans (by simpa using s.frame [b12])).trans (Step.new hb23)
      exact app put_self t1 (V27.step S23) n12 (src_step src S23)
/-- The law's own row of kind 4: the loop, and what comes of it. -/
theorem joins_k29 {g : Hp} {b12 : Nat} {z0 : Raw} {n0 : Int} {l : List Raw} {a1 : Option Addr} {c1 : Nat} (w : JH h x y rx ry mx my b0 b1 b5 b6 b7 ab r v g) (TT : Step [] g [b12] hh) (V : MB hh b12 z0) (kz : z0.Ok) (kab : ab.Ok) (kv : v.Ok) (ra : rright x rx = true)
    (f12 : g b12 = none) (src : SrcAt g 20 (.slice a1 l.length c1) l.length (mcs l)) (ok1 : ∀ q ∈ l, q.Ok) (ll : l.length ≤ 64) (gv : Got g (antis l) v)
    (bad : rright y ry = false → n0 = 5) (out : rright y ry = true → (n0 = 0 ∧ (red (red [] (partsOf x rx)) (partsOf y ry)).length ≤ 64 ∧ Got g (red (red [] (partsOf x rx)) (partsOf y ry)) ab) ∨ (n0 = 20 ∧ 64 < (red (red [] (partsOf x rx)) (partsOf y ry)).length ∧ ab = nl)) :
    law21_MonikerJoins.k29 hh l.length a1 b12 0 (Holds h) b7 b1 n0 b0 b5 := by
  unfold law21_MonikerJoins.k29
  obtain ⟨I0, hI0⟩ : ∃ I0 : List Value → Hp → Prop, I0 = fun vs h2 => ∃ (j : Nat) (a : Option Addr) (c : Nat) (o : List Nat), vs = [.slice a (antis (l.take j)).length c, .int .i64 (j : Int)] ∧ j ≤ l.length ∧ SlAt h2 T.api_Moniker 20 AnyV a (antis (l.take j)).length c (mcs (antis (l.take j))) o ∧ b12 ∉ o ∧ MB h2 b12 z0 ∧ Step [] g (o ++ [b12]) h2 := ⟨_, rfl⟩
  obtain ⟨x0, hx0⟩ : ∃ x0 : List Value → Hp → Nat, x0 = fun vs _ => match vs with | [_, .int _ i] => l.length - i.toNat | _ => 0 := ⟨_, rfl⟩
  refine ⟨I0, x0, by rw [hI0]; exact ⟨0, none, 0, [], rfl, by omega, .none, by simp, V, TT⟩, ?_⟩
  intro h2 a2 n5 c2 n6 hin
  rw [hI0] at hin
  obtain ⟨j, a', c', o, he, hj, sl, no, V2, T2⟩ := hin
  have e1 : a2 = a' ∧ n5 = (antis (l.take j)).length ∧ c2 = c' ∧ n6 = (j : Int) := by cases he; exact ⟨rfl, rfl, rfl, rfl⟩
  clear he
  obtain ⟨rfl, rfl, rfl, rfl⟩ := e1
  refine bcase_intro (fun hc => ?_) fun hc => ?_
  · have hc : j < l.length := by have := of_decide_eq_true hc; omega
    obtain ⟨q, hq⟩ : ∃ q, l[j]? = some q := ⟨_, List.getElem?_eq_getElem hc⟩
    obtain ⟨p, rfl, hp, cp⟩ := srcM src ok1 rfl hq
    have la : (antis (l.take j)).length ≤ j := Nat.le_trans antis_len (by rw [List.length_take]; omega)
    unfold law21_MonikerJoins.k9
    rw [someD_some, Int.toNat_natCast]
    refine ⟨by omega, by omega, q.kind, (cp h2 (T2.keep _ hp (by simp))).2 0 _ rfl, bcase_intro (fun c4 => ?_) fun c4 => ?_⟩
    · have c4 : q.kind ≠ 4 := by simpa using c4
      have et : antis (l.take (j + 1)) = antis (l.take j) ++ [anti] := by rw [antis_take hq, if_neg c4]
      unfold law21_MonikerJoins.k7
      refine ⟨trivial, ⟨rfl, by simp [cellish], trivial⟩, fun b14 hb14 => antiPush sl hb14 (by omega) fun a5 c5 o5 h5 s5 t5 => ⟨_, _, _, rfl, ?_⟩⟩
      unfold law21_MonikerJoins.k6
      rw [wrapN (m := j + 1) (by simp) (by omega)]
      refine ⟨?_, ?_⟩
      · rw [hI0]
        refine ⟨j + 1, a5, c5, o5, by rw [et]; simp, by omega, by rw [et]; simpa using s5, own_new (g := g) t5 (by rw [V2]; simp) no, ?_, T2.trans (t5.frame [b12])⟩
        show _ = _
        rw [t5.keep b12 (by rw [V2]; simp) no]; exact V2
      · rw [hx0]
        show l.length - ((j + 1 : Nat) : Int).toNat < l.length - (j : Int).toNat
        omega
    · have c4 : q.kind = 4 := by simpa using c4
      have et : antis (l.take (j + 1)) = antis (l.take j) := by rw [antis_take hq, if_pos c4]
      unfold law21_MonikerJoins.k8
      rw [wrapN (m := j + 1) (by simp) (by omega)]
      refine ⟨?_, ?_⟩
      · rw [hI0]
        exact ⟨j + 1, a2, c2, o, by rw [et], by omega, by rw [et]; exact sl, no, V2, T2⟩
      · rw [hx0]
        show l.length - ((j + 1 : Nat) : Int).toNat < l.length - (j : Int).toNat
        omega
  · have hc : j = l.length := by have := of_decide_eq_false hc; omega
    rw [hc, List.take_length] at sl ⊢
    have ok2 : ∀ q ∈ antis l, q.Ok := fun q hq => by rw [antis_mem q hq]; exact anti_ok
    have rp2 : ∀ q ∈ antis l, rpart q = true := fun q hq => by rw [antis_mem q hq]; exact anti_rp
    have l2 := antis_len (l := l)
    unfold law21_MonikerJoins.k28
    refine rOf_got sl.src ok2 (fun le h15 s => ⟨_, _, rfl, by simpa using mc_len (ofRaw_ok ok2), ?_⟩) fun gt => by omega
    have ky := ofRaw_ok (a := a2) (c := c2) ok2
    obtain ⟨e1', e2', S⟩ := JH.wr T2 V2 kz ky s
    have wG := w.step S.forget0
    have MY : MB (h15.put b12 (.cells (mc (ofRaw a2 c2 (antis l))).toArray T.api_Moniker (0, 0))) b12 (ofRaw a2 c2 (antis l)) := put_self
    unfold law21_MonikerJoins.k27
    refine ⟨mc_cellish, e2', bcF rfl ?_⟩
    unfold law21_MonikerJoins.k26
    rw [e1']
    refine ⟨_, wG.m7.all kv, _, MY.all ky, Got.same (l := antis l) (gv.step S.forget0) (got_of ?_ ok2 rp2 le) fun h16 s16 => ⟨_, rfl, ?_⟩⟩
    · exact (sl.keep fun q hq => by rw [put_ne fun z => no (by rw [← z]; exact hq)]; exact s.keep q (sl.mem q hq) (by simp)).src
    · exact joins_k25 w (S.trans (by simpa using s16.frame [b12])) (MY.step s16) ky kab ra bad out
theorem joins_k35 {n0 : Int} (w : JH h x y rx ry mx my b0 b1 b5 b6 b7 ab r v hh) (kab : ab.Ok) (ra : rright x rx = true) (gr : Got hh (red [] (partsOf x rx)) r) (gv : Got hh (antis (red [] (partsOf x rx))) v)
    (bad : rright y ry = false → n0 = 5) (out : rright y ry = true → (n0 = 0 ∧ (red (red [] (partsOf x rx)) (partsOf y ry)).length ≤ 64 ∧ Got hh (red (red [] (partsOf x rx)) (partsOf y ry)) ab) ∨ (n0 = 20 ∧ 64 < (red (red [] (partsOf x rx)) (partsOf y ry)).length ∧ ab = nl)) :
    law21_MonikerJoins.k35 hh b0 0 (Holds h) b6 0 b7 b1 n0 b5 := by
  unfold law21_MonikerJoins.k35
  have okA : ∀ q ∈ partsOf x rx, q.Ok := fun q hq => prt_ok w.a.T q (by rw [prt_right ra]; exact hq)
  have rpA := parts_rp ra
  have lA := parts_len w.a.T ra
  refine ⟨_, w.a.all, rParts_spec w.a.T fun a0 n3 c0 h9 hn src s9 => ⟨_, _, _, rfl, ?_⟩⟩
  subst hn
  unfold law21_MonikerJoins.k34
  refine rReduced_spec src okA rfl (by omega) fun a1 c1 o1 h10 sl ok1 s10 => ⟨_, _, _, rfl, ?_⟩
  have lR : (red [] (partsOf x rx)).length ≤ 64 := by
    have := red_len (out := []) (l := partsOf x rx)
    simp at this; omega
  have rpR := red_rp (out := []) (by simp) rpA
  unfold law21_MonikerJoins.k33
  refine rOf_got sl.src ok1 (fun le g sg => ⟨_, _, rfl, ?_⟩) fun gt => by omega
  have sT := (s9.trans s10.forget0).trans sg
  have wg := w.step sT
  have ky := ofRaw_ok (a := a1) (c := c1) ok1
  have gy : Got g (red [] (partsOf x rx)) (ofRaw a1 c1 (red [] (partsOf x rx))) := got_of (src_step sl.src sg) ok1 rpR le
  unfold law21_MonikerJoins.k32
  intro b12 hb12
  refine ⟨by simpa using mc_len ky, mc_cellish, freeM, bcF rfl ?_⟩
  unfold law21_MonikerJoins.k31
  rw [newM ky hb12]
  have TN : Step [] g [b12] (g.put b12 (.cells (mc (ofRaw a1 c1 (red [] (partsOf x rx)))).toArray T.api_Moniker (0, 0))) := Step.new hb12
  have wn := wg.step TN.forget0
  have MY : MB (g.put b12 (.cells (mc (ofRaw a1 c1 (red [] (partsOf x rx)))).toArray T.api_Moniker (0, 0))) b12 (ofRaw a1 c1 (red [] (partsOf x rx))) := put_self
  refine ⟨_, wn.m6.all gr.rt.ok, _, MY.all ky, Got.same (l := red [] (partsOf x rx)) ((gr.step sT).step TN.forget0) (gy.step TN.forget0) fun h12 s12 => ⟨_, rfl, ?_⟩⟩
  unfold law21_MonikerJoins.k30
  refine bcF rfl ?_
  exact joins_k29 wg (TN.trans (by simpa using s12.frame [b12])) (MY.step s12) ky kab gv.rt.ok ra hb12 (src_step sl.src sg) ok1 lR (gv.step sT) bad fun rb => (out rb).imp (fun z => ⟨z.1, z.2.1, z.2.2.step sT⟩) id
end
theorem MonikerJoins_holds (en : Env h) {x y : Raw} {rx ry : List Raw} {mx my : Mon} (tx : Top h x rx mx) (ty : Top h y ry my) : HC P law21_MonikerJoins.n #[.agg (mc x).toArray, .agg (mc y).toArray] h (Holds h) := by
  refine law21_MonikerJoins.hc ?_
  unfold law21_MonikerJoins
  intro b0 hb0 b1 hb1
  have S0 : Step [] h [] (h.put b0 (.cells (mc x).toArray T.api_Moniker (0, 0))) := Step.put (.inr hb0)
  have S1 : Step [] (h.put b0 (.cells (mc x).toArray T.api_Moniker (0, 0))) [] ((h.put b0 (.cells (mc x).toArray T.api_Moniker (0, 0))).put b1 (.cells (mc y).toArray T.api_Moniker (0, 0))) := Step.put (.inr hb1)
  have wa : Own h x rx mx b0 ((h.put b0 (.cells (mc x).toArray T.api_Moniker (0, 0))).put b1 (.cells (mc y).toArray T.api_Moniker (0, 0))) := (Own.new en tx hb0).step S1
  have wb : Own h y ry my b1 ((h.put b0 (.cells (mc x).toArray T.api_Moniker (0, 0))).put b1 (.cells (mc y).toArray T.api_Moniker (0, 0))) := ⟨put_self, (ty.step S0).step S1, (en.step S0).step S1, S0.trans S1⟩
  generalize (h.put b0 (.cells (mc x).toArray T.api_Moniker (0, 0))).put b1 (.cells (mc y).toArray T.api_Moniker (0, 0)) = H at wa wb ⊢
  refine ⟨_, wa.all, _, wb.all, _, wa.all, _, wb.all, gSame_spec wa.T.deep H y my _ (Step.refl _ _) wb.T.deep fun r0 h0 e0 s0 => ⟨_, rfl, ?_⟩⟩
  have wa := wa.step s0
  have wb := wb.step s0
  unfold law21_MonikerJoins.k44
  refine ⟨⟨_, wb.all, rfl⟩, ⟨_, wa.all, rfl⟩, rSame_spec wa.T.deep h0 y my _ (Step.refl _ _) wb.T.deep fun r1 h1 e1 s1 => ⟨_, rfl, ?_⟩⟩
  have wa := wa.step s1
  have wb := wb.step s1
  have er : r0 = r1 := by rw [Bool.eq_iff_iff, e0, e1]
  unfold law21_MonikerJoins.k43
  refine bcF (by rw [er]; simp) ?_
  unfold law21_MonikerJoins.k42
  refine ⟨_, wa.all, _, wa.all, gSame_spec wa.T.deep h1 x mx _ (Step.refl _ _) wa.T.deep fun r2 h2 e2 s2 => ⟨_, rfl, ?_⟩⟩
  have wa := wa.step s2
  have wb := wb.step s2
  rw [e2.2 rfl]
  unfold law21_MonikerJoins.k41
  refine bcF rfl ?_
  -- what the three calls come to
  have rest : ∀ (ab : Raw) (n0 : Int) (h3 : Hp), ab.Ok → Step [] h2 [] h3 → (rright x rx = false → n0 = 5 ∧ ab = nl) → (rright x rx = true → (rright y ry = false → n0 = 5) ∧ (rright y ry = true → (n0 = 0 ∧ (red (red [] (partsOf x rx)) (partsOf y ry)).length ≤ 64 ∧ Got h3 (red (red [] (partsOf x rx)) (partsOf y ry)) ab) ∨ (n0 = 20 ∧ 64 < (red (red [] (partsOf x rx)) (partsOf y ry)).length ∧ ab = nl))) →
      law21_MonikerJoins.k39 h3 (mc ab).toArray b0 n0 (Holds h) b1 := fun ab n0 h3 kab s3 q1 q2 => by
    unfold law21_MonikerJoins.k39
    intro b5 hb5
    refine ⟨by simpa using mc_len kab, mc_cellish, freeM, ?_⟩
    rw [newM kab hb5]
    have S5 : Step [] h3 [] (h3.put b5 (.cells (mc ab).toArray T.api_Moniker (0, 0))) := Step.put (.inr hb5)
    have M5 : MB (h3.put b5 (.cells (mc ab).toArray T.api_Moniker (0, 0))) b5 ab := put_self
    have wa5 := (wa.step s3).step S5
    have wb5 := (wb.step s3).step S5
    have both : ∀ (r v : Raw) (n1 n2 : Int) (h5 : Hp) (b6 : Nat), r.Ok → v.Ok → MB h5 b6 r → Step [] (h3.put b5 (.cells (mc ab).toArray T.api_Moniker (0, 0))) [] h5 → (rright x rx = false → n1 = 5 ∧ n2 = 5) → (rright x rx = true → n1 = 0 ∧ n2 = 0 ∧ Got h5 (red [] (partsOf x rx)) r ∧ Got h5 (antis (red [] (partsOf x rx))) v) →
        law21_MonikerJoins.k37 h5 (mc v).toArray b0 n0 n1 n2 b5 (Holds h) b6 b1 := fun r v n1 n2 h5 b6 kr kv M6 s5 u1 u2 => by
      unfold law21_MonikerJoins.k37
      intro b7 hb7
      refine ⟨by simpa using mc_len kv, mc_cellish, freeM, ?_⟩
      rw [newM kv hb7]
      have S7 : Step [] h5 [] (h5.put b7 (.cells (mc v).toArray T.api_Moniker (0, 0))) := Step.put (.inr hb7)
      have w7 : JH h x y rx ry mx my b0 b1 b5 b6 b7 ab r v (h5.put b7 (.cells (mc v).toArray T.api_Moniker (0, 0))) := ⟨(wa5.step s5).step S7, (wb5.step s5).step S7, (M5.step s5).step S7, M6.step S7, put_self⟩
      refine ⟨_, w7.a.all, rRight_spec w7.a.T fun h6 s6 => ⟨_, rfl, ?_⟩⟩
      have w6 := w7.step s6
      have sA := ((S5.trans s5).trans S7).trans s6
      unfold law21_MonikerJoins.k36
      cases ra : rright x rx with
      | false =>
        obtain ⟨rfl, rfl⟩ := q1 ra
        obtain ⟨rfl, rfl⟩ := u1 ra
        refine bcT rfl ?_
        unfold law21_MonikerJoins.k4
        refine bcT rfl ?_
        unfold law21_MonikerJoins.k3
        refine bcT rfl ?_
        unfold law21_MonikerJoins.k2
        refine bcT rfl ?_
        unfold law21_MonikerJoins.k1
        exact ⟨_, w6.m5.all kab, trivial, Got.same (x := nl) (y := nl) got_nl got_nl fun h7 s7 => ⟨_, rfl, joins_k0 (w6.step s7)⟩⟩
      | true =>
        obtain ⟨rfl, rfl, gr, gv⟩ := u2 ra
        obtain ⟨v1, v2⟩ := q2 ra
        refine bcF rfl ?_
        exact joins_k35 w6 kab ra ((gr.step S7).step s6) ((gv.step S7).step s6) v1 fun rb => (v2 rb).imp (fun z => ⟨z.1, z.2.1, z.2.2.step sA⟩) id
    have inv : ∀ (r : Raw) (n1 : Int) (h4 : Hp), r.Ok → Step [] (h3.put b5 (.cells (mc ab).toArray T.api_Moniker (0, 0))) [] h4 → (rright x rx = false → n1 = 5) → (rright x rx = true → n1 = 0 ∧ Got h4 (red [] (partsOf x rx)) r) → law21_MonikerJoins.k38 h4 (mc r).toArray b0 n0 n1 b5 (Holds h) b1 := fun r n1 h4 kr s4 u1 u2 => by
      unfold law21_MonikerJoins.k38
      intro b6 hb6
      refine ⟨by simpa using mc_len kr, mc_cellish, freeM, ?_⟩
      rw [newM kr hb6]
      have S6 : Step [] h4 [] (h4.put b6 (.cells (mc r).toArray T.api_Moniker (0, 0))) := Step.put (.inr hb6)
      have M6 : MB (h4.put b6 (.cells (mc r).toArray T.api_Moniker (0, 0))) b6 r := put_self
      have wa6 := (wa5.step s4).step S6
      refine ⟨_, wa6.all, Inverse_spec wa6.T (fun ra v h5 gv s5 => ⟨_, _, rfl, ?_⟩) fun ra h5 s5 => ⟨_, _, rfl, ?_⟩⟩
      · obtain ⟨e1, gr⟩ := u2 ra
        exact both r v n1 0 h5 b6 kr gv.rt.ok (M6.step s5) ((s4.trans S6).trans s5) (fun z => by rw [ra] at z; cases z) fun _ => ⟨e1, rfl, (gr.step S6).step s5, gv⟩
      · exact both r nl n1 5 h5 b6 kr nl_ok (M6.step s5) ((s4.trans S6).trans s5) (fun z => ⟨u1 z, rfl⟩) fun z => by rw [ra] at z; cases z
    refine ⟨_, wa5.all, Reduce_spec wa5.T (fun ra r h4 gr s4 => ⟨_, _, rfl, ?_⟩) fun ra h4 s4 => ⟨_, _, rfl, ?_⟩⟩
    · exact inv r 0 h4 gr.rt.ok s4 (fun z => by rw [ra] at z; cases z) fun _ => ⟨rfl, gr⟩
    · exact inv nl 5 h4 nl_ok s4 (fun _ => rfl) fun z => by rw [ra] at z; cases z
  unfold law21_MonikerJoins.k40
  refine ⟨_, wa.all, _, wb.all, Join_spec wa.T wb.T (fun ra rb le ab h3 gab s3 => ⟨_, _, rfl, ?_⟩) (fun ra rb gt h3 s3 => ⟨_, _, rfl, ?_⟩) fun nr h3 s3 => ⟨_, _, rfl, ?_⟩⟩
  · exact rest ab 0 h3 gab.rt.ok s3 (fun z => by rw [ra] at z; cases z) fun _ => ⟨fun z => (by rw [rb] at z; cases z), fun _ => .inl ⟨rfl, le, gab⟩⟩
  · exact rest nl 20 h3 nl_ok s3 (fun z => by rw [ra] at z; cases z) fun _ => ⟨fun z => (by rw [rb] at z; cases z), fun _ => .inr ⟨rfl, gt, rfl⟩⟩
  · exact rest nl 5 h3 nl_ok s3 (fun _ => ⟨rfl, rfl⟩) fun ra => ⟨fun _ => rfl, fun rb => absurd ⟨ra, rb⟩ nr⟩
end Go.Den.Mon
end

section
set_option linter.unusedVariables false
set_option maxRecDepth 100000
namespace Go.Den.Mon
open Go Go.Den
variable {h : Hp}
theorem MonikerJoins_said {x y : Raw} {rx ry : List Raw} {mx my : Mon} (t : Top h x rx mx) (c : x.sn ≤ x.sc) (t' : Top h y ry my) (c' : y.sn ≤ y.sc) (ht : Env h) : HC P law21_MonikerJoins.n #[.agg (mc x).toArray, .agg (mc y).toArray] h (Holds h) := MonikerJoins_holds ht t t'
end Go.Den.Mon
end

