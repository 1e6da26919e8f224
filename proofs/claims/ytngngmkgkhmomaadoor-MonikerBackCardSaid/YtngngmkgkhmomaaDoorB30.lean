import Derived.Test.YtngngmkgkhmomaaDoorDenR
import Derived.PinnedBridge
import Derived.Lib.LaidCase
import Derived.LaidMore
/- Texts that the claim needs, joined. -/
section
set_option linter.unusedVariables false
set_option maxRecDepth 100000
namespace Go.Den.Mon
open Go Go.Den Go.ChangeShapes Go.WideShapes Go.ChangeAt Go.RowKit
theorem slices_in2 {H : Type} {enc : TypeId × Value → H} {P : Program} {W : World} {spare : Nat → Bool} {held : Bool} {fuel : Nat} {t e : TypeId} {sz : Nat} {sa : Option Addr} {len cap : Nat} {x : DataW H × List MemPlace}
    (ht : P.underlying t = some (.slice e)) (hc : P.cellsOf e = sz) (hz : 0 < sz) (h : DataW.trod enc P W 0 spare held fuel t [.slice sa len cap] = some x) :
    ∃ (rows : List (List Value)) (n : Nat), n < fuel ∧ len ≤ cap ∧ rows.length = len ∧ len < 9223372036854775808 ∧ (∀ r ∈ rows, r.length = sz) ∧ SrcAt (hp W) sz (.slice sa len cap) len rows.flatten ∧
      ∀ (i : Nat) (r : List Value), rows[i]? = some r → ∃ y, DataW.trod enc P W 0 spare held n e r = some y := by
  have f0 : 0 < fuel := by
    cases fuel with
    | zero => simp [DataW.trod] at h
    | succ n => omega
  rcases DataW.trod_slice ht h with ⟨hcs, hx⟩ | ⟨a, len', cap', elems, rest, n, hfn, hcs, _, hb, hl, hm, hlen, hel, hsp, hns⟩
  · simp at hcs
    obtain ⟨rfl, rfl, rfl⟩ := hcs
    exact ⟨[], 0, f0, Nat.le_refl _, rfl, by omega, by simp, .none, fun i v hv => by simp at hv⟩
  · simp at hcs
    obtain ⟨rfl, rfl, rfl⟩ := hcs
    have hM : maxLen = 9223372036854775807 := by decide
    have each : ∀ i, i < len → ∃ r y, W.cells? 0 (a.add (i * sz)) sz = some r ∧ r.length = sz ∧ (∀ j v, r[j]? = some v → W.cell? ((a.add (i * sz)).add j) = some v) ∧ DataW.trod enc P W 0 spare held n e r = some y := by
      intro i hi
      have := hel i hi
      rw [hc, List.getElem?_eq_getElem (by omega), Option.bind_eq_some_iff] at this
      obtain ⟨cs', hcs, hy⟩ := this
      obtain ⟨-, hl1, hc1⟩ := World.cells?_some hcs
      refine ⟨cs', _, hcs, hl1, fun j v hv => ?_, hy⟩
      have hj := (List.getElem?_eq_some_iff.1 hv).1
      rw [hc1 j (by omega), hv]
    have hget : ∀ {i : Nat} {r : List Value}, ((List.range len).map fun i => (W.cells? 0 (a.add (i * sz)) sz).getD [])[i]? = some r → i < len ∧ ∃ y, W.cells? 0 (a.add (i * sz)) sz = some r ∧ r.length = sz ∧ (∀ j v, r[j]? = some v → W.cell? ((a.add (i * sz)).add j) = some v) ∧ DataW.trod enc P W 0 spare held n e r = some y := by
      intro i r hr
      rw [List.getElem?_map] at hr
      cases hj : (List.range len)[i]? with
      | none => rw [hj] at hr; cases hr
      | some j =>
        obtain ⟨hlt, hj2⟩ := List.getElem?_eq_some_iff.1 hj
        rw [List.getElem_range] at hj2
        subst hj2
        rw [hj] at hr
        have hlt' : i < len := by simpa using hlt
        obtain ⟨r', y, h1, h2, h3, h4⟩ := each i hlt'
        rw [Option.map_some, h1, Option.getD_some] at hr
        cases hr
        exact ⟨hlt', y, h1, h2, h3, h4⟩
    have hsz : ∀ r ∈ (List.range len).map fun i => (W.cells? 0 (a.add (i * sz)) sz).getD [], r.length = sz := by
      intro r hr
      obtain ⟨i, hi⟩ := List.mem_iff_getElem?.1 hr
      obtain ⟨-, y, -, h2, -⟩ := hget hi
      exact h2
    refine ⟨(List.range len).map fun i => (W.cells? 0 (a.add (i * sz)) sz).getD [], n, by omega, hl, by simp, by omega, hsz, .some ⟨by rw [List.size_toArray, flatten_len hsz]; simp, fun j v hv => ?_⟩, fun i r hr => ?_⟩
    · rw [List.getElem?_toArray] at hv
      have hj : j = (j / sz) * sz + j % sz := by have := Nat.div_add_mod j sz; rw [Nat.mul_comm] at this; exact this.symm
      rw [hj, flatten_get hsz (Nat.mod_lt _ hz), Option.bind_eq_some_iff] at hv
      obtain ⟨r, hr, hv⟩ := hv
      obtain ⟨-, y, h1, h2, h3, h4⟩ := hget hr
      have := h3 _ _ hv
      rw [addr_add_add, ← hj] at this
      rw [hp_cell?]; exact this
    · obtain ⟨-, y, h1, h2, h3, h4⟩ := hget hr
      exact ⟨y, h4⟩
theorem deeps {h : Hp} : ∀ {rows : List (List Value)}, (∀ r ∈ rows, ∃ (x : Raw) (m : Mon), r = mc x ∧ Deep h x m) → ∃ (xs : List Raw) (ms : List Mon), xs.length = rows.length ∧ rows.flatten = mcs xs ∧ (∀ x ∈ xs, x.Ok) ∧ ms.length = xs.length ∧
    ∀ (i : Nat) (r : Raw) (m : Mon), xs[i]? = some r → ms[i]? = some m → Deep h r m
  | [], _ => ⟨[], [], rfl, rfl, by simp, rfl, by simp⟩
  | r :: rows, hr => by
    obtain ⟨x, m, rfl, d⟩ := hr r (by simp)
    obtain ⟨xs, ms, h1, h2, h3, h4, h5⟩ := deeps (rows := rows) fun q hq => hr q (by simp [hq])
    refine ⟨x :: xs, m :: ms, by simp [h1], by simp [h2, mcs], fun y hy => ?_, by simp [h4], fun i q n hq hn => ?_⟩
    · rcases List.mem_cons.1 hy with rfl | hy
      · exact d.ok
      · exact h3 y hy
    · cases i with
      | zero => simp at hq hn; subst hq; subst hn; exact d
      | succ i => exact h5 i q n (by simpa using hq) (by simpa using hn)
theorem cut5 {cs : List Value} (hl : cs.length = 20) {a b c d e : List Value} (h0 : (cs.drop 0).take 1 = a) (h1 : (cs.drop 1).take 16 = b) (h2 : (cs.drop 17).take 1 = c) (h3 : (cs.drop 18).take 1 = d) (h4 : (cs.drop 19).take 1 = e) : cs = a ++ (b ++ (c ++ (d ++ e))) := by
  subst h0 h1 h2 h3 h4
  have q4 : (cs.drop 19).take 1 = cs.drop 19 := List.take_of_length_le (by rw [List.length_drop]; omega)
  have q3 : (cs.drop 18).take 1 ++ cs.drop 19 = cs.drop 18 := by
    have := List.take_append_drop 1 (cs.drop 18); rwa [List.drop_drop] at this
  have q2 : (cs.drop 17).take 1 ++ cs.drop 18 = cs.drop 17 := by
    have := List.take_append_drop 1 (cs.drop 17); rwa [List.drop_drop] at this
  have q1 : (cs.drop 1).take 16 ++ cs.drop 17 = cs.drop 1 := by
    have := List.take_append_drop 16 (cs.drop 1); rwa [List.drop_drop] at this
  rw [q4, q3, q2, q1, List.drop_zero, List.take_append_drop]
theorem deep_of {H : Type} {enc : TypeId × Value → H} {W : World} {spare : Nat → Bool} {held : Bool} (fuel : Nat) : ∀ {cs : List Value} {y : DataW H × List MemPlace}, DataW.trod enc P W 0 spare held fuel T.api_Moniker cs = some y →
    ∃ (x : Raw) (rows : List Raw) (m : Mon), cs = mc x ∧ Top (hp W) x rows m ∧ x.sn ≤ x.sc := by
  induction fuel using Nat.strongRecOn with
  | ind fuel ih =>
    intro cs y ht
    obtain ⟨xs, n, hn, -, hlen, hxs, hf⟩ := DataW.trod_struct Go.Proofs.Tryd.underlying27 ht
    have hlen : cs.length = 20 := by rw [hlen]; kernel_rfl
    have hxs : xs.length = 5 := hxs
    have f0 := hf 0 _ rfl
    have f1 := hf 1 _ rfl
    have f2 := hf 2 _ rfl
    have f3 := hf 3 _ rfl
    have f4 := hf 4 _ rfl
    rw [List.getElem?_eq_getElem (by omega)] at f0 f1 f2 f3 f4
    have c3 : P.cellsOf 3 = 1 := by kernel_rfl
    have c23 : P.cellsOf 23 = 16 := by kernel_rfl
    have c9 : P.cellsOf 9 = 1 := by kernel_rfl
    have c24 : P.cellsOf 24 = 1 := by kernel_rfl
    have c25 : P.cellsOf 25 = 1 := by kernel_rfl
    change DataW.trod enc P W 0 spare held n 3 ((cs.drop 0).take (P.cellsOf 3)) = _ at f0
    change DataW.trod enc P W 0 spare held n 23 ((cs.drop 1).take (P.cellsOf 23)) = _ at f1
    change DataW.trod enc P W 0 spare held n 9 ((cs.drop 17).take (P.cellsOf 9)) = _ at f2
    change DataW.trod enc P W 0 spare held n 24 ((cs.drop 18).take (P.cellsOf 24)) = _ at f3
    change DataW.trod enc P W 0 spare held n 25 ((cs.drop 19).take (P.cellsOf 25)) = _ at f4
    rw [c3] at f0; rw [c23] at f1; rw [c9] at f2; rw [c24] at f3; rw [c25] at f4
    obtain ⟨k, e0, -, w0⟩ := DataW.trod_int (k := .i64) (by kernel_rfl) f0
    obtain ⟨g, e1', g1, g2⟩ := bytes_of (flat_of 9 (ks := List.replicate 16 (.int .u8)) (by kernel_rfl) f1)
    obtain ⟨s, e2, -, w2⟩ := DataW.trod_string (by kernel_rfl) f2
    obtain ⟨u, e3, -, w3⟩ := DataW.trod_int (k := .u64) (by kernel_rfl) f3
    obtain ⟨u', rfl, hu⟩ := wf_u64 w3
    obtain ⟨sa, sn, sc, e4⟩ : ∃ sa sn sc, (cs.drop 19).take 1 = [.slice sa sn sc] := by
      rcases DataW.trod_slice Go.Proofs.Tryd.underlying25 f4 with ⟨q, -⟩ | ⟨a, l, c, -, -, -, -, q, -⟩
      · exact ⟨_, _, _, q⟩
      · exact ⟨_, _, _, q⟩
    rw [e4] at f4
    obtain ⟨rws, n', hn', hcap, h1, h2, h3, h4, h5⟩ := slices_in2 (sz := 20) Go.Proofs.Tryd.underlying25 (by kernel_rfl) (by omega) f4
    obtain ⟨rows, ms, r1, r2, r3, r4, r5⟩ := deeps (h := hp W) (rows := rws) fun r hr => by
      obtain ⟨i, hi⟩ := List.mem_iff_getElem?.1 hr
      obtain ⟨y', hy'⟩ := h5 i r hi
      obtain ⟨x, rows', m, e, t, -⟩ := ih n' (by omega) hy'
      exact ⟨x, m, e, t.deep⟩
    have ok : (⟨k, g, s, u', sa, sn, sc⟩ : Raw).Ok := ⟨⟨g1, g2⟩, hu, wf_i64 w0, by
      have : maxLen = 9223372036854775807 := rfl
      show s.size ≤ _; omega⟩
    rw [r2] at h4
    refine ⟨⟨k, g, s, u', sa, sn, sc⟩, rows, _, ?_, ⟨.mk (x := ⟨k, g, s, u', sa, sn, sc⟩) ok h2 (by rw [r1, h1]) h4 r3 r4 r5, h4, r3, by rw [r1, h1]⟩, hcap⟩
    rw [cut5 hlen e0 e1' e2 e3 e4]
    rfl
/-- A moniker that is handed in. -/
theorem mon_in {H : Type} {enc : TypeId × Value → H} {W : World} {base : Nat} {r : Reach} {spare : Nat → Bool} {held : Bool} {v : Value} {d : DataW H} {p : List MemPlace}
    (hval : Value.okWide P W r base T.api_Moniker v) (h : DataW.Trod enc P W 0 spare held T.api_Moniker v d p) : ∃ (x : Raw) (rows : List Raw) (m : Mon), v = .agg (mc x).toArray ∧ Top (hp W) x rows m ∧ x.sn ≤ x.sc := by
  obtain ⟨fuel, hf⟩ := h
  unfold Value.okWide at hval
  rw [show P.underlying T.api_Moniker = _ from Go.Proofs.Tryd.underlying27] at hval
  obtain ⟨cs, rfl, -⟩ := hval
  obtain ⟨x, rows, m, e, t, hc⟩ := deep_of fuel hf
  exact ⟨x, rows, m, by rw [← e]; rfl, t, hc⟩
end Go.Den.Mon
end

section
set_option linter.unusedVariables false
set_option maxRecDepth 100000
namespace Go.Den.Mon
open Go Go.Den Go.Proofs Go.Lib
theorem iface_cells {H : Type} {enc : TypeId × Value → H} {w : World} {base : Nat} {spare : Nat → Bool} {held : Bool} {fuel : Nat} {t : TypeId} {cs : List Value} {x : DataW H × List MemPlace} {ms : Array (String × TypeId)} (hi : P.underlying t = some (.interface ms))
    (h : DataW.trod enc P w base spare held fuel t cs = some x) : cs = [.nilIface] ∨ ∃ u v, cs = [.iface u v] := by
  cases fuel with
  | zero => simp [DataW.trod] at h
  | succ n =>
    unfold DataW.trod at h
    rw [hi] at h
    split at h <;> simp_all
def deb : List Int := [0, 1, 56, 2, 57, 49, 28, 3, 61, 58, 42, 50, 38, 29, 17, 4, 62, 47, 59, 36, 45, 43, 51, 22, 53, 39, 33, 30, 24, 18, 12, 5, 63, 55, 48, 27, 60, 41, 37, 16, 46, 35, 44, 21, 52, 32, 23, 11, 54, 26, 40, 15, 34, 20, 31, 10, 25, 14, 19, 9, 13, 8, 7, 6]
theorem env_reads {W : World} (r1 : VarReads P W "unicode/utf8.acceptRanges" Lib.acceptData) (r2 : VarReads P W "unicode.CaseRanges" Pinned.caseRanges) (r3 : VarReads P W "unicode/utf8.first" Pinned.utf8First)
    (r4 : VarReads P W "math/bits.deBruijn64tab" (tabData .u8 deb)) {F : DataW Unit} (r5 : VarReads P W "strconv.ErrSyntax" F) : Env (hp W) := by
  rw [Pinned.caseRanges_eq] at r2
  rw [Pinned.utf8First_eq] at r3
  have c := caseVar_of_reads (ρ := Tryd.lays159_ren) { Tryd.lays159 with } Tryd.lays159.t206 ⟨by kernel_rfl, by kernel_rfl, by kernel_rfl, by kernel_rfl, by kernel_rfl, by kernel_rfl⟩ r2
  have u := utf8Tabs_of_reads (ρ := Tryd.lays159_ren) { Tryd.lays159 with } ⟨by kernel_rfl, by kernel_rfl, by kernel_rfl, by kernel_rfl, by kernel_rfl, by kernel_rfl, by kernel_rfl⟩ r3 r1
  refine ⟨⟨W, c, u, Step.refl _ _⟩, ?_, ?_⟩
  · obtain ⟨g, t, cs, fuel, p, hg, hty, hvar, hd⟩ := r4
    obtain rfl := Option.some.inj ((show P.globalNamed "math/bits.deBruijn64tab" = some 8 by kernel_rfl).symm.trans hg)
    obtain rfl := Option.some.inj ((show (P.globals[8]?).map (·.type) = some 142 by kernel_rfl).symm.trans hty)
    have hcs := cells_of_tab (P := P) (n := 64) (e := 5) Go.Proofs.Tryd.underlying142 Go.Proofs.Tryd.underlying5 (by kernel_rfl) (by kernel_rfl) hd
    rw [hp_cell?, World.var?_cell hg hvar 15, ← Array.getElem?_toList, hcs]
    rfl
  · obtain ⟨g, t, cs, fuel, p, hg, hty, hvar, hd⟩ := r5
    obtain rfl := Option.some.inj ((show P.globalNamed "strconv.ErrSyntax" = some 2 by kernel_rfl).symm.trans hg)
    obtain rfl := Option.some.inj ((show (P.globals[2]?).map (·.type) = some 58 by kernel_rfl).symm.trans hty)
    have q := World.var?_cell hg hvar 0
    rw [← Array.getElem?_toList] at q
    rcases iface_cells Go.Proofs.Tryd.underlying58 hd with e | ⟨u, v, e⟩
    · rw [e] at q
      exact ⟨_, by rw [hp_cell?]; exact q, .inl rfl⟩
    · rw [e] at q
      exact ⟨_, by rw [hp_cell?]; exact q, .inr ⟨_, _, rfl⟩⟩
theorem env_of {W : World} {A B C D E F : DataW Unit} (hB : B = tabData .u8 deb) (hD : D = Lib.acceptData) (hn : ([("math/bits.deBruijn32tab", A), ("math/bits.deBruijn64tab", B), ("internal/strconv.uint64pow10", C), ("unicode/utf8.acceptRanges", D), ("strconv.ErrRange", E), ("strconv.ErrSyntax", F), ("unicode.CaseRanges", Pinned.caseRanges), ("unicode/utf8.first", Pinned.utf8First)].all fun x => x.2.handleName?.isNone) = true)
    (h : laidMetH P [("math/bits.deBruijn32tab", A), ("math/bits.deBruijn64tab", B), ("internal/strconv.uint64pow10", C), ("unicode/utf8.acceptRanges", D), ("strconv.ErrRange", E), ("strconv.ErrSyntax", F), ("unicode.CaseRanges", Pinned.caseRanges), ("unicode/utf8.first", Pinned.utf8First)] W) : Env (hp W) := by
  subst hB hD
  rw [MakeChecks.laidMetH_plain _ _ _ hn] at h
  exact env_reads (Lib.laidMet.reads h (n := "unicode/utf8.acceptRanges") (.tail _ (.tail _ (.tail _ (.head _))))) (Lib.laidMet.reads h (n := "unicode.CaseRanges") (.tail _ (.tail _ (.tail _ (.tail _ (.tail _ (.tail _ (.head _)))))))) (Lib.laidMet.reads h (n := "unicode/utf8.first") (.tail _ (.tail _ (.tail _ (.tail _ (.tail _ (.tail _ (.tail _ (.head _)))))))))
    (Lib.laidMet.reads h (n := "math/bits.deBruijn64tab") (.tail _ (.head _))) (Lib.laidMet.reads h (n := "strconv.ErrSyntax") (.tail _ (.tail _ (.tail _ (.tail _ (.tail _ (.head _)))))))
end Go.Den.Mon
end

section
set_option linter.unusedVariables false
set_option maxRecDepth 100000
namespace Go.Den.Mon
open Go Go.Den
variable {h : Hp} {K : Value → Hp → Prop}
theorem Deep.leaf {r : Raw} {m : Mon} (d : Deep h r m) (h0 : r.sn = 0) : m = leaf r := by
  cases d with
  | @mk _ rows ms _ _ hl _ _ hm _ =>
    have : ms = [] := List.length_eq_zero_iff.1 (by omega)
    subst this
    rfl
theorem txt0 {s : ByteArray} (e : s.size = 0) : s.data.toList = [] := List.length_eq_zero_iff.1 (by rw [← Lib.size_eq]; exact e)
/-- A right one's tree is its parts'. -/
theorem right_tree {x : Raw} {rows : List Raw} {m : Mon} (t : Top h x rows m) (e : rright x rows = true) : m = ofTree (partsOf x rows) := by
  unfold rright at e
  unfold partsOf
  split at e
  · rename_i h0
    have d := of_decide_eq_true e
    rw [if_pos h0]
    rw [t.deep.leaf d.2.2.2]
    unfold leaf ofTree
    rw [h0, d.2.1, d.2.2.1, txt0 d.1]
  · rename_i h0
    split at e
    · rename_i h5
      rw [Bool.and_eq_true] at e
      have d := of_decide_eq_true e.1
      have rp := List.all_eq_true.1 e.2
      rw [if_neg h0, if_pos h5]
      have td := t.deep
      have tl := t.len
      have ts := t.src
      have tok := t.ok
      cases td with
      | @mk _ rows' ms ok hb hl hs okr hm hd =>
        have er : rows' = rows := by
          refine List.ext_getElem? fun i => ?_
          by_cases hi : i < x.sn
          · obtain ⟨r1, q1⟩ : ∃ r, rows'[i]? = some r := ⟨_, List.getElem?_eq_getElem (by omega)⟩
            obtain ⟨r2, q2⟩ : ∃ r, rows[i]? = some r := ⟨_, List.getElem?_eq_getElem (by omega)⟩
            obtain ⟨p1, e1', -, c1⟩ := srcM hs okr hl q1
            obtain ⟨p2, e2', -, c2⟩ := srcM ts tok tl q2
            rw [e1'] at e2'
            cases e2'
            have a := c1 h rfl
            have b := c2 h rfl
            have : mc r1 = mc r2 := by
              refine List.ext_getElem? fun j => ?_
              have l1 := mc_len (okr r1 (List.mem_of_getElem? q1))
              have l2 := mc_len (tok r2 (List.mem_of_getElem? q2))
              by_cases hj : j < 20
              · obtain ⟨v, hv⟩ : ∃ v, (mc r1)[j]? = some v := ⟨_, List.getElem?_eq_getElem (by omega)⟩
                obtain ⟨u, hu⟩ : ∃ u, (mc r2)[j]? = some u := ⟨_, List.getElem?_eq_getElem (by omega)⟩
                have x1 := a.2 j v (by rw [List.getElem?_toArray]; exact hv)
                have x2 := b.2 j u (by rw [List.getElem?_toArray]; exact hu)
                rw [x1] at x2; cases x2
                rw [hv, hu]
              · rw [List.getElem?_eq_none (by omega), List.getElem?_eq_none (by omega)]
            have : r1 = r2 := by
              unfold mc at this
              obtain ⟨k1, g1, t1, H1, a1, n1, c1'⟩ := r1
              obtain ⟨k2, g2, t2, H2, a2, n2, c2'⟩ := r2
              have o1 := (okr _ (List.mem_of_getElem? q1)).id.1
              have o2 := (tok _ (List.mem_of_getElem? q2)).id.1
              simp only at o1 o2
              simp only [List.cons.injEq] at this
              obtain ⟨z1, z2⟩ := this
              have z3 := List.append_inj z2 (by rw [gvs_len, gvs_len, o1, o2])
              have z4 := gvs_inj z3.1
              have z5 := z3.2
              simp at z1 z5
              obtain ⟨y1, y2, y3, y4, y5⟩ := z5
              subst z1 z4 y1 y3 y4 y5
              have : H1 = H2 := by omega
              subst this
              rfl
            rw [q1, q2, this]
          · rw [List.getElem?_eq_none (by omega), List.getElem?_eq_none (by omega)]
        subst er
        have em : ms = rows'.map leaf := by
          refine List.ext_getElem? fun i => ?_
          by_cases hi : i < rows'.length
          · obtain ⟨r1, q1⟩ : ∃ r, rows'[i]? = some r := ⟨_, List.getElem?_eq_getElem hi⟩
            obtain ⟨m1, q2⟩ : ∃ r, ms[i]? = some r := ⟨_, List.getElem?_eq_getElem (by omega)⟩
            rw [q2, List.getElem?_map, q1, (hd i r1 m1 q1 q2).leaf (rp_sn (rp r1 (List.mem_of_getElem? q1)))]
            rfl
          · rw [List.getElem?_eq_none (by omega), List.getElem?_eq_none (by simp; omega)]
        rw [em, h5, d.2.1, d.2.2.1, txt0 d.1]
        match rows', hl, d.2.2.2.1 with
        | [], hl, d2 => simp at hl; omega
        | [_], hl, d2 => simp at hl; omega
        | _ :: _ :: _, _, _ => rfl
    · rename_i h5
      rw [if_neg h0, if_neg h5]
      exact t.deep.leaf (rp_sn e)
/-- A part as the reader makes it. -/
def nrm (r : Raw) : Raw := { r with sa := none, sn := 0, sc := 0 }
theorem nrm_ok {r : Raw} (ok : r.Ok) (rp : rpart r = true) : (nrm r).Ok ∧ rpart (nrm r) = true ∧ (nrm r).sa = none ∧ (nrm r).sc = 0 := by
  refine ⟨⟨ok.id, ok.H, ok.kind, ok.txt⟩, ?_, rfl, rfl⟩
  have e := rp_sn rp
  unfold rpart at rp ⊢
  rw [e] at rp
  exact rp
theorem nrm_txt {l : List Raw} : txtOf (l.map nrm) = txtOf l := by
  induction l with
  | nil => rfl
  | cons r l ih =>
    have e : txtOf ((r :: l).map nrm) = txt1 (nrm r) ++ txtOf (l.map nrm) := rfl
    rw [e, ih]
    rfl
theorem nrm_tree : ∀ {l : List Raw}, ofTree (l.map nrm) = ofTree l
  | [] => rfl
  | [r] => rfl
  | r :: s :: l => by
    have e : ∀ k : List Raw, (k.map nrm).map leaf = k.map leaf := fun k => by rw [List.map_map]; rfl
    show Mon.mk 5 z16 [] 0 (((r :: s :: l).map nrm).map leaf) = Mon.mk 5 z16 [] 0 ((r :: s :: l).map leaf)
    rw [e]
theorem MonikerBack_holds (en : Env h) {x : Raw} {rows : List Raw} {m : Mon} {s0 : ByteArray} (t : Top h x rows m) : HC P law21_MonikerBack.n #[.agg (mc x).toArray, .string s0] h (Holds h) := by
  refine law21_MonikerBack.hc ?_
  unfold law21_MonikerBack
  intro b0 hb0
  have w := Own.new en t hb0
  have two : ∀ {hh : Hp}, Own h x rows m b0 hh → law21_MonikerBack.k7 s0 hh (Holds h) := fun {hh} w => by
    unfold law21_MonikerBack.k7
    refine bcase_intro (fun _ => w.aw) fun hs => ?_
    have hs := of_decide_eq_false hs
    have sz : s0.size = s0.data.toList.length := Lib.size_eq _
    unfold law21_MonikerBack.k6
    have : HC P moniker_Parse.n #[.string (str s0.data.toList)] hh (fun v5 h4 => (∃ cs5 : Array Value, (∃ n2 : Int, (v5 = (.tuple #[.agg cs5, .int .i64 n2])) ∧ (law21_MonikerBack.k5 h4 cs5 n2 (Holds h) s0)))) := by
      refine Parse_spec w.E (by omega) (fun L cL le e y h4 g s4 => ⟨_, _, rfl, ?_⟩) fun _ h4 s4 => ⟨_, _, rfl, ?_⟩
      · have w4 := w.step s4
        obtain ⟨rws, ty, ep, er⟩ := g
        have ky := ty.deep.ok
        unfold law21_MonikerBack.k5
        intro b4 hb4
        refine ⟨by simpa using mc_len ky, mc_cellish, freeM, bcF rfl ?_⟩
        unfold law21_MonikerBack.k4
        rw [newM ky hb4]
        have S4 : Step [] h4 [] (h4.put b4 (.cells (mc y).toArray T.api_Moniker (0, 0))) := Step.put (.inr hb4)
        have w5 := w4.step S4
        have My : MB (h4.put b4 (.cells (mc y).toArray T.api_Moniker (0, 0))) b4 y := put_self
        refine ⟨_, My.all ky, Print_spec w5.E (ty.step S4) (fun _ h6 s6 => ⟨_, _, rfl, ?_⟩) fun z => by rw [er] at z; cases z⟩
        unfold law21_MonikerBack.k3
        refine bcT rfl ?_
        unfold law21_MonikerBack.k2
        refine bcT ?_ (w5.step s6).aw
        rw [ep, ← e, beq_iff_eq]
      · have w4 := w.step s4
        unfold law21_MonikerBack.k5
        intro b4 hb4
        refine ⟨by simpa using mc_len nl_ok, mc_cellish, freeM, bcT rfl ?_⟩
        unfold law21_MonikerBack.k1
        rw [newM nl_ok hb4]
        exact (w4.step (Step.put (.inr hb4))).aw
    rw [str_self] at this
    exact this
  refine ⟨_, w.all, Print_spec w.E w.T (fun hr h0 s0 => ⟨_, _, rfl, ?_⟩) fun hr h0 s0 => ⟨_, _, rfl, ?_⟩⟩
  · have w0 := w.step s0
    unfold law21_MonikerBack.k12
    refine bcT rfl ?_
    unfold law21_MonikerBack.k11
    have rps := parts_rp hr
    have pl := parts_len t hr
    have okp : ∀ r ∈ partsOf x rows, r.Ok := fun r hr' => prt_ok t r (by rw [prt_right hr]; exact hr')
    have tree := right_tree t hr
    rw [← nrm_txt]
    refine Parse_back w0.E (L := (partsOf x rows).map nrm) (fun r hr => by
      obtain ⟨q, hq, rfl⟩ := List.mem_map.1 hr
      exact nrm_ok (okp q hq) (rps q hq)) (by simpa using pl) fun y h1 g s1 => ⟨_, _, rfl, ?_⟩
    have w1 := w0.step s1
    obtain ⟨rws, ty, -, -⟩ := g
    rw [nrm_tree, ← tree] at ty
    have ky := ty.deep.ok
    unfold law21_MonikerBack.k10
    intro b1 hb1
    refine ⟨by simpa using mc_len ky, mc_cellish, freeM, bcF rfl ?_⟩
    unfold law21_MonikerBack.k9
    rw [newM ky hb1]
    have S1 : Step [] h1 [] (h1.put b1 (.cells (mc y).toArray T.api_Moniker (0, 0))) := Step.put (.inr hb1)
    have w2 := w1.step S1
    have My : MB (h1.put b1 (.cells (mc y).toArray T.api_Moniker (0, 0))) b1 y := put_self
    refine ⟨_, My.all ky, _, w2.all, rSame_spec (ty.step S1).deep _ x m _ (Step.refl _ _) w2.T.deep fun r h2 hr2 s2 => ⟨_, rfl, ?_⟩⟩
    rw [hr2.2 rfl]
    unfold law21_MonikerBack.k8
    exact bcF rfl (two (w2.step s2))
  · unfold law21_MonikerBack.k12
    exact bcF rfl (two (w.step s0))
end Go.Den.Mon
end

section
set_option linter.unusedVariables false
set_option maxRecDepth 100000
namespace Go.Den.Mon
open Go Go.Den
variable {h : Hp}
theorem MonikerBack_said {x : Raw} {rows : List Raw} {m : Mon} {s : ByteArray} (t : Top h x rows m) (c : x.sn ≤ x.sc) (hs : s.size ≤ maxLen) (ht : Env h) : HC P law21_MonikerBack.n #[.agg (mc x).toArray, .string s] h (Holds h) := MonikerBack_holds ht t
end Go.Den.Mon
end

