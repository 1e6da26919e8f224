import Derived.Test.YtngngmkgkhmomaaDoorDenR
import Derived.PinnedBridge
import Derived.Lib.LaidCase
import Derived.LaidMore
/- Texts that the claim needs, joined. -/
section
set_option linter.unusedVariables false
set_option maxRecDepth 100000
namespace Go.Den.Mon
open Go Go.Den Go.ChangeShapes Go.WideShapes Go.ChangeAt Go.RowKit
theorem slices_in2 {H : Type} {enc : TypeId × Value → H} {P : Program} {W : World} {spare : Nat → Bool} {held : Bool} {fuel : Nat} {t e : TypeId} {sz : Nat} {sa : Option Addr} {len cap : Nat} {x : DataW H × List MemPlace}
    (ht : P.underlying t = some (.slice e)) (hc : P.cellsOf e = sz) (hz : 0 < sz) (h : DataW.trod enc P W 0 spare held fuel t [.slice sa len cap] = some x) :
    ∃ (rows : List (List Value)) (n : Nat), n < fuel ∧ len ≤ cap ∧ rows.length = len ∧ len < 9223372036854775808 ∧ (∀ r ∈ rows, r.length = sz) ∧ SrcAt (hp W) sz (.slice sa len cap) len rows.flatten ∧
      ∀ (i : Nat) (r : List Value), rows[i]? = some r → ∃ y, DataW.trod enc P W 0 spare held n e r = some y := by
  have f0 : 0 < fuel := by
    cases fuel with
    | zero => simp [DataW.trod] at h
    | succ n => omega
  rcases DataW.trod_slice ht h with ⟨hcs, hx⟩ | ⟨a, len', cap', elems, rest, n, hfn, hcs, _, hb, hl, hm, hlen, hel, hsp, hns⟩
  · simp at hcs
    obtain ⟨rfl, rfl, rfl⟩ := hcs
    exact ⟨[], 0, f0, Nat.le_refl _, rfl, by omega, by simp, .none, fun i v hv => by simp at hv⟩
  · simp at hcs
    obtain ⟨rfl, rfl, rfl⟩ := hcs
    have hM : maxLen = 9223372036854775807 := by decide
    have each : ∀ i, i < len → ∃ r y, W.cells? 0 (a.add (i * sz)) sz = some r ∧ r.length = sz ∧ (∀ j v, r[j]? = some v → W.cell? ((a.add (i * sz)).add j) = some v) ∧ DataW.trod enc P W 0 spare held n e r = some y := by
      intro i hi
      have := hel i hi
      rw [hc, List.getElem?_eq_getElem (by omega), Option.bind_eq_some_iff] at this
      obtain ⟨cs', hcs, hy⟩ := this
      obtain ⟨-, hl1, hc1⟩ := World.cells?_some hcs
      refine ⟨cs', _, hcs, hl1, fun j v hv => ?_, hy⟩
      have hj := (List.getElem?_eq_some_iff.1 hv).1
      rw [hc1 j (by omega), hv]
    have hget : ∀ {i : Nat} {r : List Value}, ((List.range len).map fun i => (W.cells? 0 (a.add (i * sz)) sz).getD [])[i]? = some r → i < len ∧ ∃ y, W.cells? 0 (a.add (i * sz)) sz = some r ∧ r.length = sz ∧ (∀ j v, r[j]? = some v → W.cell? ((a.add (i * sz)).add j) = some v) ∧ DataW.trod enc P W 0 spare held n e r = some y := by
      intro i r hr
      rw [List.getElem?_map] at hr
      cases hj : (List.range len)[i]? with
      | none => rw [hj] at hr; cases hr
      | some j =>
        obtain ⟨hlt, hj2⟩ := List.getElem?_eq_some_iff.1 hj
        rw [List.getElem_range] at hj2
        subst hj2
        rw [hj] at hr
        have hlt' : i < len := by simpa using hlt
        obtain ⟨r', y, h1, h2, h3, h4⟩ := each i hlt'
        rw [Option.map_some, h1, Option.getD_some] at hr
        cases hr
        exact ⟨hlt', y, h1, h2, h3, h4⟩
    have hsz : ∀ r ∈ (List.range len).map fun i => (W.cells? 0 (a.add (i * sz)) sz).getD [], r.length = sz := by
      intro r hr
      obtain ⟨i, hi⟩ := List.mem_iff_getElem?.1 hr
      obtain ⟨-, y, -, h2, -⟩ := hget hi
      exact h2
    refine ⟨(List.range len).map fun i => (W.cells? 0 (a.add (i * sz)) sz).getD [], n, by omega, hl, by simp, by omega, hsz, .some ⟨by rw [List.size_toArray, flatten_len hsz]; simp, fun j v hv => ?_⟩, fun i r hr => ?_⟩
    · rw [List.getElem?_toArray] at hv
      have hj : j = (j / sz) * sz + j % sz := by have := Nat.div_add_mod j sz; rw [Nat.mul_comm] at this; exact this.symm
      rw [hj, flatten_get hsz (Nat.mod_lt _ hz), Option.bind_eq_some_iff] at hv
      obtain ⟨r, hr, hv⟩ := hv
      obtain ⟨-, y, h1, h2, h3, h4⟩ := hget hr
      have := h3 _ _ hv
      rw [addr_add_add, ← hj] at this
      rw [hp_cell?]; exact this
    · obtain ⟨-, y, h1, h2, h3, h4⟩ := hget hr
      exact ⟨y, h4⟩
theorem deeps {h : Hp} : ∀ {rows : List (List Value)}, (∀ r ∈ rows, ∃ (x : Raw) (m : Mon), r = mc x ∧ Deep h x m) → ∃ (xs : List Raw) (ms : List Mon), xs.length = rows.length ∧ rows.flatten = mcs xs ∧ (∀ x ∈ xs, x.Ok) ∧ ms.length = xs.length ∧
    ∀ (i : Nat) (r : Raw) (m : Mon), xs[i]? = some r → ms[i]? = some m → Deep h r m
  | [], _ => ⟨[], [], rfl, rfl, by simp, rfl, by simp⟩
  | r :: rows, hr => by
    obtain ⟨x, m, rfl, d⟩ := hr r (by simp)
    obtain ⟨xs, ms, h1, h2, h3, h4, h5⟩ := deeps (rows := rows) fun q hq => hr q (by simp [hq])
    refine ⟨x :: xs, m :: ms, by simp [h1], by simp [h2, mcs], fun y hy => ?_, by simp [h4], fun i q n hq hn => ?_⟩
    · rcases List.mem_cons.1 hy with rfl | hy
      · exact d.ok
      · exact h3 y hy
    · cases i with
      | zero => simp at hq hn; subst hq; subst hn; exact d
      | succ i => exact h5 i q n (by simpa using hq) (by simpa using hn)
theorem cut5 {cs : List Value} (hl : cs.length = 20) {a b c d e : List Value} (h0 : (cs.drop 0).take 1 = a) (h1 : (cs.drop 1).take 16 = b) (h2 : (cs.drop 17).take 1 = c) (h3 : (cs.drop 18).take 1 = d) (h4 : (cs.drop 19).take 1 = e) : cs = a ++ (b ++ (c ++ (d ++ e))) := by
  subst h0 h1 h2 h3 h4
  have q4 : (cs.drop 19).take 1 = cs.drop 19 := List.take_of_length_le (by rw [List.length_drop]; omega)
  have q3 : (cs.drop 18).take 1 ++ cs.drop 19 = cs.drop 18 := by
    have := List.take_append_drop 1 (cs.drop 18); rwa [List.drop_drop] at this
  have q2 : (cs.drop 17).take 1 ++ cs.drop 18 = cs.drop 17 := by
    have := List.take_append_drop 1 (cs.drop 17); rwa [List.drop_drop] at this
  have q1 : (cs.drop 1).take 16 ++ cs.drop 17 = cs.drop 1 := by
    have := List.take_append_drop 16 (cs.drop 1); rwa [List.drop_drop] at this
  rw [q4, q3, q2, q1, List.drop_zero, List.take_append_drop]
theorem deep_of {H : Type} {enc : TypeId × Value → H} {W : World} {spare : Nat → Bool} {held : Bool} (fuel : Nat) : ∀ {cs : List Value} {y : DataW H × List MemPlace}, DataW.trod enc P W 0 spare held fuel T.api_Moniker cs = some y →
    ∃ (x : Raw) (rows : List Raw) (m : Mon), cs = mc x ∧ Top (hp W) x rows m ∧ x.sn ≤ x.sc := by
  induction fuel using Nat.strongRecOn with
  | ind fuel ih =>
    intro cs y ht
    obtain ⟨xs, n, hn, -, hlen, hxs, hf⟩ := DataW.trod_struct Go.Proofs.Tryd.underlying27 ht
    have hlen : cs.length = 20 := by rw [hlen]; kernel_rfl
    have hxs : xs.length = 5 := hxs
    have f0 := hf 0 _ rfl
    have f1 := hf 1 _ rfl
    have f2 := hf 2 _ rfl
    have f3 := hf 3 _ rfl
    have f4 := hf 4 _ rfl
    rw [List.getElem?_eq_getElem (by omega)] at f0 f1 f2 f3 f4
    have c3 : P.cellsOf 3 = 1 := by kernel_rfl
    have c23 : P.cellsOf 23 = 16 := by kernel_rfl
    have c9 : P.cellsOf 9 = 1 := by kernel_rfl
    have c24 : P.cellsOf 24 = 1 := by kernel_rfl
    have c25 : P.cellsOf 25 = 1 := by kernel_rfl
    change DataW.trod enc P W 0 spare held n 3 ((cs.drop 0).take (P.cellsOf 3)) = _ at f0
    change DataW.trod enc P W 0 spare held n 23 ((cs.drop 1).take (P.cellsOf 23)) = _ at f1
    change DataW.trod enc P W 0 spare held n 9 ((cs.drop 17).take (P.cellsOf 9)) = _ at f2
    change DataW.trod enc P W 0 spare held n 24 ((cs.drop 18).take (P.cellsOf 24)) = _ at f3
    change DataW.trod enc P W 0 spare held n 25 ((cs.drop 19).take (P.cellsOf 25)) = _ at f4
    rw [c3] at f0; rw [c23] at f1; rw [c9] at f2; rw [c24] at f3; rw [c25] at f4
    obtain ⟨k, e0, -, w0⟩ := DataW.trod_int (k := .i64) (by kernel_rfl) f0
    obtain ⟨g, e1', g1, g2⟩ := bytes_of (flat_of 9 (ks := List.replicate 16 (.int .u8)) (by kernel_rfl) f1)
    obtain ⟨s, e2, -, w2⟩ := DataW.trod_string (by kernel_rfl) f2
    obtain ⟨u, e3, -, w3⟩ := DataW.trod_int (k := .u64) (by kernel_rfl) f3
    obtain ⟨u', rfl, hu⟩ := wf_u64 w3
    obtain ⟨sa, sn, sc, e4⟩ : ∃ sa sn sc, (cs.drop 19).take 1 = [.slice sa sn sc] := by
      rcases DataW.trod_slice Go.Proofs.Tryd.underlying25 f4 with ⟨q, -⟩ | ⟨a, l, c, -, -, -, -, q, -⟩
      · exact ⟨_, _, _, q⟩
      · exact ⟨_, _, _, q⟩
    rw [e4] at f4
    obtain ⟨rws, n', hn', hcap, h1, h2, h3, h4, h5⟩ := slices_in2 (sz := 20) Go.Proofs.Tryd.underlying25 (by kernel_rfl) (by omega) f4
    obtain ⟨rows, ms, r1, r2, r3, r4, r5⟩ := deeps (h := hp W) (rows := rws) fun r hr => by
      obtain ⟨i, hi⟩ := List.mem_iff_getElem?.1 hr
      obtain ⟨y', hy'⟩ := h5 i r hi
      obtain ⟨x, rows', m, e, t, -⟩ := ih n' (by omega) hy'
      exact ⟨x, m, e, t.deep⟩
    have ok : (⟨k, g, s, u', sa, sn, sc⟩ : Raw).Ok := ⟨⟨g1, g2⟩, hu, wf_i64 w0, by
      have : maxLen = 9223372036854775807 := rfl
      show s.size ≤ _; omega⟩
    rw [r2] at h4
    refine ⟨⟨k, g, s, u', sa, sn, sc⟩, rows, _, ?_, ⟨.mk (x := ⟨k, g, s, u', sa, sn, sc⟩) ok h2 (by rw [r1, h1]) h4 r3 r4 r5, h4, r3, by rw [r1, h1]⟩, hcap⟩
    rw [cut5 hlen e0 e1' e2 e3 e4]
    rfl
/-- A moniker that is handed in. -/
theorem mon_in {H : Type} {enc : TypeId × Value → H} {W : World} {base : Nat} {r : Reach} {spare : Nat → Bool} {held : Bool} {v : Value} {d : DataW H} {p : List MemPlace}
    (hval : Value.okWide P W r base T.api_Moniker v) (h : DataW.Trod enc P W 0 spare held T.api_Moniker v d p) : ∃ (x : Raw) (rows : List Raw) (m : Mon), v = .agg (mc x).toArray ∧ Top (hp W) x rows m ∧ x.sn ≤ x.sc := by
  obtain ⟨fuel, hf⟩ := h
  unfold Value.okWide at hval
  rw [show P.underlying T.api_Moniker = _ from Go.Proofs.Tryd.underlying27] at hval
  obtain ⟨cs, rfl, -⟩ := hval
  obtain ⟨x, rows, m, e, t, hc⟩ := deep_of fuel hf
  exact ⟨x, rows, m, by rw [← e]; rfl, t, hc⟩
end Go.Den.Mon
end

section
set_option linter.unusedVariables false
set_option maxRecDepth 100000
namespace Go.Den.Mon
open Go Go.Den Go.Proofs Go.Lib
theorem iface_cells {H : Type} {enc : TypeId × Value → H} {w : World} {base : Nat} {spare : Nat → Bool} {held : Bool} {fuel : Nat} {t : TypeId} {cs : List Value} {x : DataW H × List MemPlace} {ms : Array (String × TypeId)} (hi : P.underlying t = some (.interface ms))
    (h : DataW.trod enc P w base spare held fuel t cs = some x) : cs = [.nilIface] ∨ ∃ u v, cs = [.iface u v] := by
  cases fuel with
  | zero => simp [DataW.trod] at h
  | succ n =>
    unfold DataW.trod at h
    rw [hi] at h
    split at h <;> simp_all
def deb : List Int := [0, 1, 56, 2, 57, 49, 28, 3, 61, 58, 42, 50, 38, 29, 17, 4, 62, 47, 59, 36, 45, 43, 51, 22, 53, 39, 33, 30, 24, 18, 12, 5, 63, 55, 48, 27, 60, 41, 37, 16, 46, 35, 44, 21, 52, 32, 23, 11, 54, 26, 40, 15, 34, 20, 31, 10, 25, 14, 19, 9, 13, 8, 7, 6]
theorem env_reads {W : World} (r1 : VarReads P W "unicode/utf8.acceptRanges" Lib.acceptData) (r2 : VarReads P W "unicode.CaseRanges" Pinned.caseRanges) (r3 : VarReads P W "unicode/utf8.first" Pinned.utf8First)
    (r4 : VarReads P W "math/bits.deBruijn64tab" (tabData .u8 deb)) {F : DataW Unit} (r5 : VarReads P W "strconv.ErrSyntax" F) : Env (hp W) := by
  rw [Pinned.caseRanges_eq] at r2
  rw [Pinned.utf8First_eq] at r3
  have c := caseVar_of_reads (ρ := Tryd.lays159_ren) { Tryd.lays159 with } Tryd.lays159.t206 ⟨by kernel_rfl, by kernel_rfl, by kernel_rfl, by kernel_rfl, by kernel_rfl, by kernel_rfl⟩ r2
  have u := utf8Tabs_of_reads (ρ := Tryd.lays159_ren) { Tryd.lays159 with } ⟨by kernel_rfl, by kernel_rfl, by kernel_rfl, by kernel_rfl, by kernel_rfl, by kernel_rfl, by kernel_rfl⟩ r3 r1
  refine ⟨⟨W, c, u, Step.refl _ _⟩, ?_, ?_⟩
  · obtain ⟨g, t, cs, fuel, p, hg, hty, hvar, hd⟩ := r4
    obtain rfl := Option.some.inj ((show P.globalNamed "math/bits.deBruijn64tab" = some 8 by kernel_rfl).symm.trans hg)
    obtain rfl := Option.some.inj ((show (P.globals[8]?).map (·.type) = some 142 by kernel_rfl).symm.trans hty)
    have hcs := cells_of_tab (P := P) (n := 64) (e := 5) Go.Proofs.Tryd.underlying142 Go.Proofs.Tryd.underlying5 (by kernel_rfl) (by kernel_rfl) hd
    rw [hp_cell?, World.var?_cell hg hvar 15, ← Array.getElem?_toList, hcs]
    rfl
  · obtain ⟨g, t, cs, fuel, p, hg, hty, hvar, hd⟩ := r5
    obtain rfl := Option.some.inj ((show P.globalNamed "strconv.ErrSyntax" = some 2 by kernel_rfl).symm.trans hg)
    obtain rfl := Option.some.inj ((show (P.globals[2]?).map (·.type) = some 58 by kernel_rfl).symm.trans hty)
    have q := World.var?_cell hg hvar 0
    rw [← Array.getElem?_toList] at q
    rcases iface_cells Go.Proofs.Tryd.underlying58 hd with e | ⟨u, v, e⟩
    · rw [e] at q
      exact ⟨_, by rw [hp_cell?]; exact q, .inl rfl⟩
    · rw [e] at q
      exact ⟨_, by rw [hp_cell?]; exact q, .inr ⟨_, _, rfl⟩⟩
theorem env_of {W : World} {A B C D E F : DataW Unit} (hB : B = tabData .u8 deb) (hD : D = Lib.acceptData) (hn : ([("math/bits.deBruijn32tab", A), ("math/bits.deBruijn64tab", B), ("internal/strconv.uint64pow10", C), ("unicode/utf8.acceptRanges", D), ("strconv.ErrRange", E), ("strconv.ErrSyntax", F), ("unicode.CaseRanges", Pinned.caseRanges), ("unicode/utf8.first", Pinned.utf8First)].all fun x => x.2.handleName?.isNone) = true)
    (h : laidMetH P [("math/bits.deBruijn32tab", A), ("math/bits.deBruijn64tab", B), ("internal/strconv.uint64pow10", C), ("unicode/utf8.acceptRanges", D), ("strconv.ErrRange", E), ("strconv.ErrSyntax", F), ("unicode.CaseRanges", Pinned.caseRanges), ("unicode/utf8.first", Pinned.utf8First)] W) : Env (hp W) := by
  subst hB hD
  rw [MakeChecks.laidMetH_plain _ _ _ hn] at h
  exact env_reads (Lib.laidMet.reads h (n := "unicode/utf8.acceptRanges") (.tail _ (.tail _ (.tail _ (.head _))))) (Lib.laidMet.reads h (n := "unicode.CaseRanges") (.tail _ (.tail _ (.tail _ (.tail _ (.tail _ (.tail _ (.head _)))))))) (Lib.laidMet.reads h (n := "unicode/utf8.first") (.tail _ (.tail _ (.tail _ (.tail _ (.tail _ (.tail _ (.tail _ (.head _)))))))))
    (Lib.laidMet.reads h (n := "math/bits.deBruijn64tab") (.tail _ (.head _))) (Lib.laidMet.reads h (n := "strconv.ErrSyntax") (.tail _ (.tail _ (.tail _ (.tail _ (.tail _ (.head _)))))))
end Go.Den.Mon
end

section
set_option linter.unusedVariables false
set_option maxRecDepth 100000
namespace Go.Den.Mon
open Go Go.Den
variable {h : Hp} {K : Value → Hp → Prop}
theorem Deep.leaf {r : Raw} {m : Mon} (d : Deep h r m) (h0 : r.sn = 0) : m = leaf r := by
  cases d with
  | @mk _ rows ms _ _ hl _ _ hm _ =>
    have : ms = [] := List.length_eq_zero_iff.1 (by omega)
    subst this
    rfl
theorem txt0 {s : ByteArray} (e : s.size = 0) : s.data.toList = [] := List.length_eq_zero_iff.1 (by rw [← Lib.size_eq]; exact e)
/-- A right one's tree is its parts'. -/
theorem right_tree {x : Raw} {rows : List Raw} {m : Mon} (t : Top h x rows m) (e : rright x rows = true) : m = ofTree (partsOf x rows) := by
  unfold rright at e
  unfold partsOf
  split at e
  · rename_i h0
    have d := of_decide_eq_true e
    rw [if_pos h0]
    rw [t.deep.leaf d.2.2.2]
    unfold leaf ofTree
    rw [h0, d.2.1, d.2.2.1, txt0 d.1]
  · rename_i h0
    split at e
    · rename_i h5
      rw [Bool.and_eq_true] at e
      have d := of_decide_eq_true e.1
      have rp := List.all_eq_true.1 e.2
      rw [if_neg h0, if_pos h5]
      have td := t.deep
      have tl := t.len
      have ts := t.src
      have tok := t.ok
      cases td with
      | @mk _ rows' ms ok hb hl hs okr hm hd =>
        have er : rows' = rows := by
          refine List.ext_getElem? fun i => ?_
          by_cases hi : i < x.sn
          · obtain ⟨r1, q1⟩ : ∃ r, rows'[i]? = some r := ⟨_, List.getElem?_eq_getElem (by omega)⟩
            obtain ⟨r2, q2⟩ : ∃ r, rows[i]? = some r := ⟨_, List.getElem?_eq_getElem (by omega)⟩
            obtain ⟨p1, e1', -, c1⟩ := srcM hs okr hl q1
            obtain ⟨p2, e2', -, c2⟩ := srcM ts tok tl q2
            rw [e1'] at e2'
            cases e2'
            have a := c1 h rfl
            have b := c2 h rfl
            have : mc r1 = mc r2 := by
              refine List.ext_getElem? fun j => ?_
              have l1 := mc_len (okr r1 (List.mem_of_getElem? q1))
              have l2 := mc_len (tok r2 (List.mem_of_getElem? q2))
              by_cases hj : j < 20
              · obtain ⟨v, hv⟩ : ∃ v, (mc r1)[j]? = some v := ⟨_, List.getElem?_eq_getElem (by omega)⟩
                obtain ⟨u, hu⟩ : ∃ u, (mc r2)[j]? = some u := ⟨_, List.getElem?_eq_getElem (by omega)⟩
                have x1 := a.2 j v (by rw [List.getElem?_toArray]; exact hv)
                have x2 := b.2 j u (by rw [List.getElem?_toArray]; exact hu)
                rw [x1] at x2; cases x2
                rw [hv, hu]
              · rw [List.getElem?_eq_none (by omega), List.getElem?_eq_none (by omega)]
            have : r1 = r2 := by
              unfold mc at this
              obtain ⟨k1, g1, t1, H1, a1, n1, c1'⟩ := r1
              obtain ⟨k2, g2, t2, H2, a2, n2, c2'⟩ := r2
              have o1 := (okr _ (List.mem_of_getElem? q1)).id.1
              have o2 := (tok _ (List.mem_of_getElem? q2)).id.1
              simp only at o1 o2
              simp only [List.cons.injEq] at this
              obtain ⟨z1, z2⟩ := this
              have z3 := List.append_inj z2 (by rw [gvs_len, gvs_len, o1, o2])
              have z4 := gvs_inj z3.1
              have z5 := z3.2
              simp at z1 z5
              obtain ⟨y1, y2, y3, y4, y5⟩ := z5
              subst z1 z4 y1 y3 y4 y5
              have : H1 = H2 := by omega
              subst this
              rfl
            rw [q1, q2, this]
          · rw [List.getElem?_eq_none (by omega), List.getElem?_eq_none (by omega)]
        subst er
        have em : ms = rows'.map leaf := by
          refine List.ext_getElem? fun i => ?_
          by_cases hi : i < rows'.length
          · obtain ⟨r1, q1⟩ : ∃ r, rows'[i]? = some r := ⟨_, List.getElem?_eq_getElem hi⟩
            obtain ⟨m1, q2⟩ : ∃ r, ms[i]? = some r := ⟨_, List.getElem?_eq_getElem (by omega)⟩
            rw [q2, List.getElem?_map, q1, (hd i r1 m1 q1 q2).leaf (rp_sn (rp r1 (List.mem_of_getElem? q1)))]
            rfl
          · rw [List.getElem?_eq_none (by omega), List.getElem?_eq_none (by simp; omega)]
        rw [em, h5, d.2.1, d.2.2.1, txt0 d.1]
        match rows', hl, d.2.2.2.1 with
        | [], hl, d2 => simp at hl; omega
        | [_], hl, d2 => simp at hl; omega
        | _ :: _ :: _, _, _ => rfl
    · rename_i h5
      rw [if_neg h0, if_neg h5]
      exact t.deep.leaf (rp_sn e)
end Go.Den.Mon
end

section
set_option linter.unusedVariables false
set_option maxRecDepth 100000
namespace Go.Den.Mon
open Go Go.Den
variable {h : Hp} {K : Value → Hp → Prop}
theorem prt_len {x : Raw} {rows : List Raw} {m : Mon} (t : Top h x rows m) : (prt x rows).length ≤ 64 := by
  unfold prt
  split
  · exact parts_len t ‹_›
  · simp
theorem parts_spec {x : Raw} {rows : List Raw} {m : Mon} (t : Top h x rows m) {n0 : Nat} (hn0 : n0 < 1000000)
    (hk : ∀ a c o h', SlAt h' T.api_Moniker 20 AnyV a ((prt x rows).take n0).length c (mcs ((prt x rows).take n0)) o → (∀ r ∈ (prt x rows).take n0, r.Ok) → Step [] h o h' → K (.slice a ((prt x rows).take n0).length c) h') :
    HC P law21_parts.n #[.agg (mc x).toArray, .int .i64 (n0 : Int)] h K := by
  have k := t.deep.ok
  have pl := prt_len t
  refine law21_parts.hc ?_
  unfold law21_parts
  intro b0 hb0 b1 hb1 b2 hb2
  have n01 : b0 ≠ b1 := fun q => by rw [← q, put_self] at hb1; cases hb1
  have n12 : b1 ≠ b2 := fun q => by rw [← q, put_self] at hb2; cases hb2
  have n02 : b0 ≠ b2 := fun q => by rw [← q, put_ne n01, put_self] at hb2; cases hb2
  have f1 : h b1 = none := by rw [put_ne (Ne.symm n01)] at hb1; exact hb1
  have f2 : h b2 = none := by rw [put_ne (Ne.symm n12), put_ne (Ne.symm n02)] at hb2; exact hb2
  obtain ⟨H, hH⟩ : ∃ H, H = ((h.put b0 (.cells (mc x).toArray T.api_Moniker (0, 0))).put b1 (.cells #[.int .i64 (n0 : Int)] T.int (0, 0))).put b2 (.cells #[.slice none 0 0] T.sl_api_Moniker (0, 0)) := ⟨_, rfl⟩
  have M : MB H b0 x := by rw [hH]; show _ = _; rw [put_ne n02, put_ne n01, put_self]
  have V1 : H b1 = some (.cells #[.int .i64 (n0 : Int)] T.int (0, 0)) := by rw [hH, put_ne n12, put_self]
  have V2 : H b2 = some (.cells #[.slice none 0 0] T.sl_api_Moniker (0, 0)) := by rw [hH, put_self]
  have S0 : Step [] h [b2] H := by rw [hH]; exact ((Step.put (.inr hb0)).trans (Step.put (.inr hb1))).trans (Step.new hb2)
  rw [← hH]
  refine ⟨_, M.all k, moniker_Parts.hc ?_⟩
  unfold moniker_Parts
  intro bF hbF
  refine ⟨_, _, _, rfl, ?_⟩
  unfold law21_parts.k4
  refine trueD_intro (by kernel_rfl) ?_
  intro l0 R0 hl0 hyall
  have nlF : l0 ≠ bF := fun q => by rw [q, put_self] at hl0; cases hl0
  have fl : H l0 = none := by rw [put_ne nlF] at hl0; exact hl0
  have nl1 : l0 ≠ b1 := fun q => by rw [q, V1] at fl; cases fl
  have nl2 : l0 ≠ b2 := fun q => by rw [q, V2] at fl; cases fl
  have nF1 : bF ≠ b1 := fun q => by rw [q, V1] at hbF; cases hbF
  have nF2 : bF ≠ b2 := fun q => by rw [q, V2] at hbF; cases hbF
  obtain ⟨H1, hH1⟩ : ∃ H1, H1 = (H.put bF (.cells (mc x).toArray T.api_Moniker (0, 0))).put l0 R0.ready := ⟨_, rfl⟩
  have S1 : ∀ q, Step q H q H1 := fun q => by rw [hH1]; exact (Step.put (.inr hbF)).trans (Step.put (.inr hl0))
  have HF : MB H1 bF x := by rw [hH1]; show _ = _; rw [put_ne (Ne.symm nlF), put_self]
  have HL : H1 l0 = some R0.ready := by rw [hH1, put_self]
  have W1 : H1 b1 = some (.cells #[.int .i64 (n0 : Int)] T.int (0, 0)) := (S1 []).keepB0 V1
  have W2 : H1 b2 = some (.cells #[.slice none 0 0] T.sl_api_Moniker (0, 0)) := (S1 []).keepB0 V2
  have toH : ∀ {o : List Nat} {hh : Hp} {X : Obj}, l0 ∉ o → Step [b2, l0] H1 (o ++ [b2, l0]) hh → Step [] h o (hh.put l0 X) := fun {o hh X} hno s => by
    have s1 : Step [b2, l0] H (o ++ [b2, l0]) (hh.put l0 X) := ((S1 _).trans s).trans (Step.put (.inl (by simp)))
    refine ⟨fun q hq _ => ?_, fun q hq => ?_, fun q hq => s1.dom q (S0.dom q hq)⟩
    · have q1 : q ≠ b2 := fun e => hq (by rw [e]; exact f2)
      have q2 : q ≠ l0 := fun e => S0.dom q hq (by rw [e]; exact fl)
      rw [s1.keep q (S0.dom q hq) (by simp [q1, q2])]
      exact S0.keep q hq (by simp)
    · right
      rcases s1.own q (by simp [hq]) with z | z
      · simp at z
        rcases z with z | z
        · rw [z]; exact f2
        · exact absurd hq (by rw [z]; exact hno)
      · exact Classical.byContradiction fun e => S0.dom q e z
  refine partsIt_spec (l0 := l0) (bF := bF) (h := (H.put bF (.cells (mc x).toArray T.api_Moniker (0, 0))).put l0 R0.ready) (m := m) (by rw [← hH1]; exact (t.step S0.forget0).step (S1 [])) (by rw [← hH1]; exact HF)
    (fun i hh => ∃ o1, Out hh b2 ((prt x rows).take i) o1 ∧ hh l0 = some R0.ready ∧ l0 ∉ o1 ∧ b1 ∉ o1 ∧ hh b1 = some (.cells #[.int .i64 (n0 : Int)] T.int (0, 0)) ∧ i ≤ n0 ∧ Step [b2, l0] H1 (o1 ++ [b2, l0]) hh)
    (fun hh => ∃ o1, Out hh b2 ((prt x rows).take n0) o1 ∧ hh l0 = some (R0.done (.exit 0)) ∧ l0 ∉ o1 ∧ Step [b2, l0] H1 (o1 ++ [b2, l0]) hh) ?_ ?_ ?_ ?_ ?_ ?_
  · rw [← hH1]
    exact ⟨[], ⟨⟨none, 0, by simpa using W2, (.none : SlAt H1 T.api_Moniker 20 AnyV none 0 0 [] [])⟩, by simp, by simp⟩, HL, by simp, by simp, W1, by omega, Step.refl _ _⟩
  · rintro i hh hh' ⟨o1, g1, g2, g3, g4, g5, g6, g7⟩ st
    refine ⟨o1, g1.keep fun q hq => ?_, st.keepB0 g2, g3, g4, st.keepB0 g5, g6, g7.trans (by simpa using st.frame (o1 ++ [b2, l0]))⟩
    refine st.keep q ?_ (by simp)
    obtain ⟨a', c', e', s'⟩ := g1.row
    rcases hq with rfl | hq
    · rw [e']; simp
    · exact s'.mem q hq
  · rintro i hh ⟨o1, g1, g2, g3, g4, g5, g6, g7⟩
    rw [← hH1]
    refine ⟨g7.keep bF (by rw [HF]; simp) (by simp [nF2, Ne.symm nlF]), fun q eq en hq => g7.keep _ hq ?_⟩
    have d := t.blk q eq en
    have d1 : q.block ≠ b2 := fun z => d (by rw [z]; exact f2)
    have d2 : q.block ≠ l0 := fun z => S0.dom _ d (by rw [z]; exact fl)
    simp [d1, d2]
  · rintro i r hh C hi ⟨o1, g1, g2, g3, g4, g5, g6, g7⟩ yes no
    have kr := prt_ok t r (List.mem_of_getElem? hi)
    have il : i < (prt x rows).length := (List.getElem?_eq_some_iff.1 hi).1
    have tl : ((prt x rows).take i).length = i := by rw [List.length_take]; omega
    refine hyall (mc r).toArray hh C g2 ?_
    intro b3 hb3
    have n3l : b3 ≠ l0 := fun q => by rw [q, g2] at hb3; cases hb3
    have n31 : b3 ≠ b1 := fun q => by rw [q, g5] at hb3; cases hb3
    obtain ⟨a, c, e, s⟩ := g1.row
    have n32 : b3 ≠ b2 := fun q => by rw [q, e] at hb3; cases hb3
    have n3o : ∀ q ∈ o1, q ≠ b3 := fun q hq z => s.mem q hq (by rw [z]; exact hb3)
    have e3 := newM kr hb3
    refine ⟨by simpa using mc_len kr, mc_cellish, freeM, by rw [e3, put_ne (Ne.symm n3l)]; exact g2, a, _, c, by rw [e3, cell_of (cs := #[.slice a ((prt x rows).take i).length c]) (T := T.sl_api_Moniker) (f := (0, 0)) (by rw [put_ne (Ne.symm nl2), put_ne (Ne.symm n32)]; exact e)]; rfl, _, by rw [e3, cell_of (cs := #[.int .i64 (n0 : Int)]) (T := T.int) (f := (0, 0)) (by rw [put_ne (Ne.symm nl1), put_ne (Ne.symm n31)]; exact g5)]; rfl, bcase_intro (fun hc => ?_) fun hc => ?_⟩
    · have hc : i = n0 := by have := of_decide_eq_true hc; rw [tl] at this; omega
      unfold law21_parts.k0
      rw [e3]
      refine ⟨put_self, no _ ⟨o1, ?_, put_self, g3, ?_⟩⟩
      · rw [← hc]
        exact g1.keep fun q hq => by
          have q1 : q ≠ l0 := fun z => by
            rcases hq with hq | hq
            · exact nl2 (by rw [← z, hq])
            · exact g3 (by rw [← z]; exact hq)
          have q2 : q ≠ b3 := fun z => by
            rcases hq with hq | hq
            · exact n32 (by rw [← z, hq])
            · exact n3o q hq z
          rw [put_ne q1, put_ne q1, put_ne q2]
      · exact ((g7.trans (Step.put (.inr hb3))).trans (Step.put (.inl (by simp)))).trans (Step.put (.inl (by simp)))
    · have hc : i < n0 := by have := of_decide_eq_false hc; rw [tl] at this; omega
      have push := redPush (h2 := hh) (b0 := b2) (b2 := b3) (l0 := l0) (x := r) (out := (prt x rows).take i) (o := o1) (R0 := R0) (K0 := C) kr g1 g2 g3 nl2 hb3 (by omega) fun o' h' q1 q2 q3 q4 => yes h' ⟨o', by rw [List.take_add_one, hi]; exact q1, q2, q3, fun z => ?_, ?_, by omega, g7.trans q4⟩
      · exact push
      · rcases q4.own b1 (by simp [z]) with y | y
        · simp at y
          rcases y with y | y | y
          · exact g4 y
          · exact n12 y
          · exact nl1 y.symm
        · rw [g5] at y; cases y
      · rw [q4.keep b1 (by rw [g5]; simp) (by simp [g4, n12, Ne.symm nl1])]; exact g5
  · rintro hh ⟨o1, g1, g2, g3, g4, g5, g6, g7⟩
    obtain ⟨a, c, e, s⟩ := g1.row
    have et : (prt x rows).take (prt x rows).length = (prt x rows).take n0 := by rw [List.take_length, List.take_of_length_le g6]
    rw [et] at e s
    unfold law21_parts.k3
    refine .inl ⟨g2, a, _, c, by rw [cell_of (cs := #[.slice a ((prt x rows).take n0).length c]) (T := T.sl_api_Moniker) (f := (0, 0)) (by rw [put_ne (Ne.symm nl2)]; exact e)]; rfl, ?_⟩
    exact hk a c o1 _ (s.keep fun q hq => put_ne fun z => g3 (by rw [← z]; exact hq)) (fun r hr => prt_ok t r (List.mem_of_mem_take hr)) (toH g3 g7)
  · rintro hh ⟨o1, g1, g2, g3, g7⟩
    obtain ⟨a, c, e, s⟩ := g1.row
    unfold law21_parts.k3
    refine .inr (.inl ⟨g2, a, _, c, by rw [cell_of (cs := #[.slice a ((prt x rows).take n0).length c]) (T := T.sl_api_Moniker) (f := (0, 0)) (by rw [put_ne (Ne.symm nl2)]; exact e)]; rfl, ?_⟩)
    exact hk a c o1 _ (s.keep fun q hq => put_ne fun z => g3 (by rw [← z]; exact hq)) (fun r hr => prt_ok t r (List.mem_of_mem_take hr)) (toH g3 g7)
end Go.Den.Mon
end

section
set_option linter.unusedVariables false
set_option maxRecDepth 100000
namespace Go.Den.Mon
open Go Go.Den
variable {h : Hp} {K : Value → Hp → Prop}
/-! ### In plain words -/
theorem red_red {z : List Raw} : ∀ {l out : List Raw}, red z (red out l) = red z (out ++ l)
  | [], out => by simp [red]
  | x :: l, out => by
    show red z (red (red1 out x) l) = _
    rw [red_red (l := l) (out := red1 out x)]
    unfold red1
    cases e : out.getLast? with
    | none => simp
    | some y =>
      simp only []
      split
      · rename_i q
        obtain ⟨o', rfl⟩ : ∃ o', out = o' ++ [y] := by
          have hne : out ≠ [] := fun e' => by rw [e'] at e; cases e
          refine ⟨out.dropLast, ?_⟩
          have := List.dropLast_concat_getLast hne
          rw [List.getLast?_eq_some_getLast hne] at e
          cases e
          exact this.symm
        rw [List.dropLast_concat, List.append_assoc]
        exact (red_cut q.1 q.2).symm
      · rw [List.append_assoc]; rfl
theorem red_idem {l : List Raw} : red [] (red [] l) = red [] l := by rw [red_red]; rfl
theorem red_join {A B : List Raw} : red [] (red (red [] A) B) = red (red [] A) B := by rw [red_red, red_append, red_idem]
theorem red_assoc {A B C : List Raw} : red (red [] (red (red [] A) B)) C = red (red [] A) (red (red [] B) C) := by
  rw [red_join, red_red, red_append, red_red, List.nil_append]
theorem flat_none : ∀ {l : List Raw}, (∀ r ∈ l, r.kind ≠ 4) → flat l
  | [], _ => trivial
  | [_], _ => trivial
  | y :: x :: l, hn => ⟨fun q => hn x (by simp) q.1, flat_none fun r hr => hn r (by simp [hr])⟩
theorem antis_none {l : List Raw} (hn : ∀ r ∈ l, r.kind ≠ 4) : antis l = List.replicate l.length anti := by
  unfold antis
  rw [List.filter_eq_self.2 fun r hr => by simpa using hn r hr, List.map_const']
theorem red_pop : ∀ {k : Nat} {l : List Raw}, l.length = k → (∀ r ∈ l, r.kind ≠ 4) → red l (List.replicate k anti) = []
  | 0, l, hl, _ => by rw [List.length_eq_zero_iff.1 hl]; rfl
  | k + 1, l, hl, hn => by
    obtain ⟨l', y, rfl⟩ : ∃ l' y, l = l' ++ [y] := ⟨l.dropLast, l.getLast (List.ne_nil_of_length_pos (by omega)), (List.dropLast_concat_getLast _).symm⟩
    rw [List.replicate_succ]
    show red (red1 (l' ++ [y]) anti) (List.replicate k anti) = []
    rw [red1_last (y := y) (by simp), if_pos ⟨rfl, hn y (by simp)⟩, List.dropLast_concat]
    exact red_pop (by simp at hl; exact hl) fun r hr => hn r (by simp [hr])
/-! ### Right ones -/
def Rt (h : Hp) (l : List Raw) (x : Raw) : Prop := ∃ rows m, Top h x rows m ∧ partsOf x rows = l ∧ rright x rows = true
section
variable {h' : Hp} {l l' : List Raw} {x y : Raw}
theorem Got.rt (g : Got h l x) : Rt h l x := by obtain ⟨rows, t, a, b⟩ := g; exact ⟨rows, _, t, a, b⟩
theorem Rt.step (g : Rt h l x) (s : Step [] h [] h') : Rt h' l x := by obtain ⟨rows, m, t, a, b⟩ := g; exact ⟨rows, m, t.step s, a, b⟩
theorem Rt.ok (g : Rt h l x) : x.Ok := by obtain ⟨rows, m, t, a, b⟩ := g; exact t.deep.ok
theorem Rt.len (g : Rt h l x) : l.length ≤ 64 := by obtain ⟨rows, m, t, a, b⟩ := g; rw [← a]; exact parts_len t b
theorem Rt.got (g : Rt h l x) : Got h l x := by
  obtain ⟨rows, m, t, a, b⟩ := g
  have := right_tree t b
  rw [a] at this
  subst this
  exact ⟨rows, t, a, b⟩
theorem got_nl : Got h [] nl := ⟨[], ⟨nl_deep, .none, by simp, rfl⟩, rfl, by unfold rright; rw [if_pos (show nl.kind = 0 from rfl)]; exact decide_eq_true ⟨rfl, rfl, rfl, rfl⟩⟩
theorem Rt.join (g : Rt h l x) (g' : Rt h l' y) (hk : (red (red [] l) l').length ≤ 64 → ∀ z h', Got h' (red (red [] l) l') z → Step [] h [] h' → K (.tuple #[.agg (mc z).toArray, .int .i64 0]) h')
    (hm : 64 < (red (red [] l) l').length → ∀ h', Step [] h [] h' → K (.tuple #[.agg (mc nl).toArray, .int .i64 20]) h') : HC P moniker_Join.n #[.agg (mc x).toArray, .agg (mc y).toArray] h K := by
  obtain ⟨rows, m, t, rfl, b⟩ := g
  obtain ⟨rows', m', t', rfl, b'⟩ := g'
  exact Join_spec t t' (fun _ _ => hk) (fun _ _ => hm) fun z => absurd ⟨b, b'⟩ z
theorem Rt.reduce (g : Rt h l x) (hk : ∀ z h', Got h' (red [] l) z → Step [] h [] h' → K (.tuple #[.agg (mc z).toArray, .int .i64 0]) h') : HC P moniker_Reduce.n #[.agg (mc x).toArray] h K := by
  obtain ⟨rows, m, t, rfl, b⟩ := g
  exact Reduce_spec t (fun _ => hk) fun z => by rw [b] at z; cases z
theorem Rt.inverse (g : Rt h l x) (hk : ∀ z h', Got h' (antis (red [] l)) z → Step [] h [] h' → K (.tuple #[.agg (mc z).toArray, .int .i64 0]) h') : HC P moniker_Inverse.n #[.agg (mc x).toArray] h K := by
  obtain ⟨rows, m, t, rfl, b⟩ := g
  exact Inverse_spec t (fun _ => hk) fun z => by rw [b] at z; cases z
theorem Got.same (g : Got h l x) (g' : Got h l y) (hk : ∀ h', Step [] h [] h' → K (.bool true) h') : HC P ref21_Same.n #[.agg (mc x).toArray, .agg (mc y).toArray] h K := by
  obtain ⟨rows, t, -, -⟩ := g
  obtain ⟨rows', t', -, -⟩ := g'
  refine rSame_spec t.deep h y _ _ (Step.refl _ _) t'.deep fun r h2 hr s2 => ?_
  rw [hr.2 rfl]; exact hk h2 s2
theorem Rt.ne64 (g : Rt h l x) : (red [] l).length ≤ 64 := by
  have := red_len (out := []) (l := l)
  have := g.len
  simp at *; omega
end
/-- A result laid in a block of the law's own. -/
structure Held (hh : Hp) (b : Nat) (l : List Raw) (x : Raw) : Prop where
  M : MB hh b x
  g : Got hh l x
section
variable {h' : Hp} {l l' : List Raw} {x y : Raw} {b : Nat}
theorem Held.step (w : Held h b l x) (s : Step [] h [] h') : Held h' b l x := ⟨w.M.step s, w.g.step s⟩
theorem Held.all (w : Held h b l x) : CellsAt h ⟨b, 0, none⟩ 20 (mc x).toArray := w.M.all w.g.rt.ok
theorem Held.new (g : Got h l x) (hb : h b = none) : Held (h.put b (.cells (mc x).toArray T.api_Moniker (0, 0))) b l x ∧ Step [] h [] (h.put b (.cells (mc x).toArray T.api_Moniker (0, 0))) :=
  ⟨⟨put_self, g.step (Step.put (.inr hb))⟩, Step.put (.inr hb)⟩
end
/-- What a law of right monikers keeps. -/
structure Kp (h hh : Hp) : Prop where
  E : Env hh
  st : Step [] h [] hh
theorem Kp.step {hh h' : Hp} (w : Kp h hh) (s : Step [] hh [] h') : Kp h h' := ⟨w.E.step s, w.st.trans s⟩
theorem Kp.aw {hh : Hp} (w : Kp h hh) : HC P law21_awake.n #[] hh (fun v h3 => (∃ b2 : Bool, (v = (.bool b2)) ∧ Holds h (.bool b2) h3)) := awake_spec w.E fun h3 s3 => ⟨true, rfl, rfl, w.st.trans s3⟩
theorem groups_k8 {hh : Hp} {b0 : Nat} {A : List Raw} {a : Raw} (w : Kp h hh) (wa : Held hh b0 A a) (hn : ∀ r ∈ A, r.kind ≠ 4) : law21_MonikerGroups.k8 hh b0 (Holds h) := by
  unfold law21_MonikerGroups.k8
  refine ⟨_, wa.all, wa.g.rt.inverse fun v h1 gv s1 => ⟨_, _, rfl, ?_⟩⟩
  have eA : red [] A = A := flat_self (flat_none hn)
  rw [eA] at gv
  unfold law21_MonikerGroups.k7
  intro b18 hb18
  have kv := gv.rt.ok
  refine ⟨by simpa using mc_len kv, mc_cellish, freeM, ?_⟩
  rw [newM kv hb18]
  obtain ⟨wv, S⟩ := Held.new gv hb18
  have wa1 := (wa.step s1).step S
  have w1 := (w.step s1).step S
  have ez : red (red [] A) (antis A) = [] := by rw [eA, antis_none hn]; exact red_pop rfl hn
  refine ⟨_, wa1.all, _, wv.all, wa1.g.rt.join wv.g.rt (fun _ z h2 gz s2 => ⟨_, _, rfl, ?_⟩) fun q => by rw [ez] at q; simp at q⟩
  rw [ez] at gz
  have kz := gz.rt.ok
  unfold law21_MonikerGroups.k6
  intro b19 hb19
  refine ⟨by simpa using mc_len kz, mc_cellish, freeM, bcT rfl ?_⟩
  unfold law21_MonikerGroups.k5
  refine bcT rfl ?_
  unfold law21_MonikerGroups.k4
  rw [newM kz hb19]
  obtain ⟨wz, S'⟩ := Held.new gz hb19
  have w2 := (w1.step s2).step S'
  refine ⟨_, wz.all, trivial, Got.same (x := z) (y := nl) wz.g got_nl fun h3 s3 => ⟨_, rfl, ?_⟩⟩
  unfold law21_MonikerGroups.k3
  exact bcT rfl (w2.step s3).aw
theorem groups_k10 {hh : Hp} {b0 : Nat} {A : List Raw} {a : Raw} (w : Kp h hh) (wa : Held hh b0 A a) : law21_MonikerGroups.k10 hh b0 (Holds h) := by
  unfold law21_MonikerGroups.k10
  obtain ⟨rows, t, ep, er⟩ := wa.g
  have pl : (partsOf a rows).length ≤ 64 := parts_len t er
  refine ⟨_, wa.all, parts_spec (n0 := 99) t (by omega) fun a1 c1 o h1 sl ok1 s1 => ⟨_, _, _, rfl, ?_⟩⟩
  have et : (prt a rows).take 99 = A := by rw [prt_right er, ep, List.take_of_length_le (by rw [← ep]; omega)]
  rw [et] at sl ok1 ⊢
  have w1 := w.step s1.forget0
  have wa1 := wa.step s1.forget0
  have lA : A.length ≤ 64 := by rw [← ep]; exact pl
  obtain ⟨I0, hI0⟩ : ∃ I0 : List Value → Hp → Prop, I0 = fun vs h' => ∃ (j : Nat), vs = [.bool false, .int .i64 (j : Int)] ∧ j ≤ A.length ∧ (∀ i r, i < j → A[i]? = some r → r.kind ≠ 4) ∧ Step [] h1 [] h' := ⟨_, rfl⟩
  obtain ⟨x0, hx0⟩ : ∃ x0 : List Value → Hp → Nat, x0 = fun vs _ => match vs with | [_, .int _ i] => A.length - i.toNat | _ => 0 := ⟨_, rfl⟩
  refine ⟨I0, x0, ?_⟩
  unfold law21_MonikerGroups.k9
  refine ⟨by rw [hI0]; exact ⟨0, rfl, by omega, by omega, Step.refl _ _⟩, ?_⟩
  intro h2 b16 n11 hin
  rw [hI0] at hin
  obtain ⟨j, he, hj, hall, st⟩ := hin
  have e1' : b16 = false ∧ n11 = (j : Int) := by cases he; exact ⟨rfl, rfl⟩
  clear he
  obtain ⟨rfl, rfl⟩ := e1'
  have w2 := w1.step st
  refine bcase_intro (fun hc => ?_) fun hc => ?_
  · have hc : j < A.length := by have := of_decide_eq_true hc; omega
    obtain ⟨r, hr⟩ : ∃ r, A[j]? = some r := ⟨_, List.getElem?_eq_getElem hc⟩
    obtain ⟨p, rfl, hp, cp⟩ := srcM sl.src ok1 rfl hr
    unfold law21_MonikerGroups.k2
    rw [someD_some, Int.toNat_natCast]
    refine ⟨by omega, by omega, r.kind, (cp h2 (st.keep _ hp (by simp))).2 0 _ rfl, bcase_intro (fun _ => w2.aw) fun c4 => ?_⟩
    have c4 : r.kind ≠ 4 := by simpa using c4
    unfold law21_MonikerGroups.k1
    rw [wrapN (m := j + 1) (by simp) (by omega)]
    refine ⟨?_, ?_⟩
    · rw [hI0]
      refine ⟨j + 1, rfl, by omega, fun i q hi hq => ?_, st⟩
      by_cases e : i = j
      · subst e; rw [hr] at hq; cases hq; exact c4
      · exact hall i q (by omega) hq
    · rw [hx0]
      show A.length - ((j + 1 : Nat) : Int).toNat < A.length - (j : Int).toNat
      omega
  · have hc : j = A.length := by have := of_decide_eq_false hc; omega
    refine groups_k8 w2 (wa1.step st) fun r hr => ?_
    obtain ⟨i, hi⟩ := List.mem_iff_getElem?.1 hr
    exact hall i r (by have := (List.getElem?_eq_some_iff.1 hi).1; omega) hi
theorem groups_k19 {hh : Hp} {b0 : Nat} {A : List Raw} {a r : Raw} (w : Kp h hh) (wa : Held hh b0 A a) (g : Got hh (red [] A) r) : law21_MonikerGroups.k19 hh (mc r).toArray b0 0 (Holds h) := by
  unfold law21_MonikerGroups.k19
  intro b11 hb11
  have kr := g.rt.ok
  refine ⟨by simpa using mc_len kr, mc_cellish, freeM, ?_⟩
  rw [newM kr hb11]
  obtain ⟨wr, S⟩ := Held.new g hb11
  have wa1 := wa.step S
  have w1 := w.step S
  have e1' : red (red [] A) [] = red [] A := rfl
  have e2' : red (red [] []) (red [] A) = red [] A := red_idem
  have le : (red [] A).length ≤ 64 := wa.g.rt.ne64
  refine ⟨_, wa1.all, trivial, Rt.join (x := a) (y := nl) wa1.g.rt got_nl.rt (fun _ x h2 gx s2 => ⟨_, _, rfl, ?_⟩) fun q => by rw [e1'] at q; omega⟩
  rw [e1'] at gx
  have kx := gx.rt.ok
  unfold law21_MonikerGroups.k18
  intro b12 hb12
  refine ⟨by simpa using mc_len kx, mc_cellish, freeM, trivial, ?_⟩
  rw [newM kx hb12]
  obtain ⟨wx, S2⟩ := Held.new gx hb12
  have wa2 := (wa1.step s2).step S2
  have wr2 := (wr.step s2).step S2
  have w2 := (w1.step s2).step S2
  refine ⟨_, wr2.all, Rt.join (x := nl) (y := r) got_nl.rt wr2.g.rt (fun _ y h3 gy s3 => ⟨_, _, rfl, ?_⟩) fun q => by rw [e2'] at q; omega⟩
  rw [e2'] at gy
  have ky := gy.rt.ok
  unfold law21_MonikerGroups.k17
  intro b13 hb13
  refine ⟨by simpa using mc_len ky, mc_cellish, freeM, bcF rfl ?_⟩
  unfold law21_MonikerGroups.k16
  refine bcF rfl ?_
  unfold law21_MonikerGroups.k15
  refine bcF rfl ?_
  unfold law21_MonikerGroups.k14
  rw [newM ky hb13]
  obtain ⟨wy, S3⟩ := Held.new gy hb13
  have wa3 := (wa2.step s3).step S3
  have wr3 := (wr2.step s3).step S3
  have wx3 := (wx.step s3).step S3
  have w3 := (w2.step s3).step S3
  refine ⟨_, wx3.all, _, wr3.all, wx3.g.same wr3.g fun h4 s4 => ⟨_, rfl, ?_⟩⟩
  unfold law21_MonikerGroups.k13
  refine bcF rfl ?_
  unfold law21_MonikerGroups.k12
  refine ⟨_, (wy.step s4).all, _, (wr3.step s4).all, (wy.step s4).g.same (wr3.step s4).g fun h5 s5 => ⟨_, rfl, ?_⟩⟩
  unfold law21_MonikerGroups.k11
  exact bcF rfl (groups_k10 ((w3.step s4).step s5) ((wa3.step s4).step s5))
theorem MonikerGroups_holds (en : Env h) {x y z : Raw} {rx ry rz : List Raw} {mx my mz : Mon} (tx : Top h x rx mx) (ty : Top h y ry my) (tz : Top h z rz mz) : HC P law21_MonikerGroups.n #[.agg (mc x).toArray, .agg (mc y).toArray, .agg (mc z).toArray] h (Holds h) := by
  refine law21_MonikerGroups.hc ?_
  unfold law21_MonikerGroups
  intro b0 hb0 b1 hb1 b2 hb2
  have S0 : Step [] h [] (h.put b0 (.cells (mc x).toArray T.api_Moniker (0, 0))) := Step.put (.inr hb0)
  have S1 : Step [] (h.put b0 (.cells (mc x).toArray T.api_Moniker (0, 0))) [] ((h.put b0 (.cells (mc x).toArray T.api_Moniker (0, 0))).put b1 (.cells (mc y).toArray T.api_Moniker (0, 0))) := Step.put (.inr hb1)
  have S2 : Step [] ((h.put b0 (.cells (mc x).toArray T.api_Moniker (0, 0))).put b1 (.cells (mc y).toArray T.api_Moniker (0, 0))) [] (((h.put b0 (.cells (mc x).toArray T.api_Moniker (0, 0))).put b1 (.cells (mc y).toArray T.api_Moniker (0, 0))).put b2 (.cells (mc z).toArray T.api_Moniker (0, 0))) := Step.put (.inr hb2)
  have Mx : MB (((h.put b0 (.cells (mc x).toArray T.api_Moniker (0, 0))).put b1 (.cells (mc y).toArray T.api_Moniker (0, 0))).put b2 (.cells (mc z).toArray T.api_Moniker (0, 0))) b0 x := (MB.step (MB.step (put_self : MB (h.put b0 (.cells (mc x).toArray T.api_Moniker (0, 0))) b0 x) S1) S2)
  have My : MB (((h.put b0 (.cells (mc x).toArray T.api_Moniker (0, 0))).put b1 (.cells (mc y).toArray T.api_Moniker (0, 0))).put b2 (.cells (mc z).toArray T.api_Moniker (0, 0))) b1 y := MB.step (put_self : MB ((h.put b0 (.cells (mc x).toArray T.api_Moniker (0, 0))).put b1 (.cells (mc y).toArray T.api_Moniker (0, 0))) b1 y) S2
  have Mz : MB (((h.put b0 (.cells (mc x).toArray T.api_Moniker (0, 0))).put b1 (.cells (mc y).toArray T.api_Moniker (0, 0))).put b2 (.cells (mc z).toArray T.api_Moniker (0, 0))) b2 z := put_self
  have SS := (S0.trans S1).trans S2
  have w : Kp h (((h.put b0 (.cells (mc x).toArray T.api_Moniker (0, 0))).put b1 (.cells (mc y).toArray T.api_Moniker (0, 0))).put b2 (.cells (mc z).toArray T.api_Moniker (0, 0))) := ⟨en.step SS, SS⟩
  have tx := tx.step SS
  have ty := ty.step SS
  have tz := tz.step SS
  generalize ((h.put b0 (.cells (mc x).toArray T.api_Moniker (0, 0))).put b1 (.cells (mc y).toArray T.api_Moniker (0, 0))).put b2 (.cells (mc z).toArray T.api_Moniker (0, 0)) = H at Mx My Mz w tx ty tz ⊢
  refine ⟨_, Mx.all tx.deep.ok, Check_spec tx fun h0 s0 => ⟨_, rfl, ?_⟩⟩
  unfold law21_MonikerGroups.k35
  by_cases ra : rright x rx = true
  case neg => rw [if_neg ra]; exact bcT rfl (w.step s0).aw
  rw [if_pos ra]
  refine bcF rfl ?_
  unfold law21_MonikerGroups.k34
  refine ⟨_, (My.step s0).all ty.deep.ok, Check_spec (ty.step s0) fun h1 s1 => ⟨_, rfl, ?_⟩⟩
  unfold law21_MonikerGroups.k33
  by_cases rb : rright y ry = true
  case neg => rw [if_neg rb]; exact bcT rfl ((w.step s0).step s1).aw
  rw [if_pos rb]
  refine bcF rfl ?_
  unfold law21_MonikerGroups.k32
  refine ⟨_, ((Mz.step s0).step s1).all tz.deep.ok, Check_spec ((tz.step s0).step s1) fun h2 s2 => ⟨_, rfl, ?_⟩⟩
  unfold law21_MonikerGroups.k31
  by_cases rc : rright z rz = true
  case neg => rw [if_neg rc]; exact bcT rfl (((w.step s0).step s1).step s2).aw
  rw [if_pos rc]
  refine bcF rfl ?_
  have S := (s0.trans s1).trans s2
  have wx : Held h2 b0 (partsOf x rx) x := ⟨Mx.step S, Rt.got ⟨rx, mx, tx.step S, rfl, ra⟩⟩
  have wy : Held h2 b1 (partsOf y ry) y := ⟨My.step S, Rt.got ⟨ry, my, ty.step S, rfl, rb⟩⟩
  have wz : Held h2 b2 (partsOf z rz) z := ⟨Mz.step S, Rt.got ⟨rz, mz, tz.step S, rfl, rc⟩⟩
  have w := w.step S
  generalize partsOf x rx = A at wx
  generalize partsOf y ry = B at wy
  generalize partsOf z rz = C at wz
  clear S s0 s1 s2 tx ty tz Mx My Mz
  -- the second half
  have half : ∀ {hh : Hp}, Step [] h2 [] hh → HC P moniker_Reduce.n #[.agg (mc x).toArray] hh (fun v15 h11 => (∃ cs21 : Array Value, (∃ n7 : Int, (v15 = (.tuple #[.agg cs21, .int .i64 n7])) ∧ (law21_MonikerGroups.k19 h11 cs21 b0 n7 (Holds h))))) := fun {hh} s =>
    (wx.step s).g.rt.reduce fun r h3 gr s3 => ⟨_, _, rfl, groups_k19 ((w.step s).step s3) ((wx.step s).step s3) gr⟩
  unfold law21_MonikerGroups.k30
  -- what the first two joins come to
  have go2 : ∀ (ab bc : Raw) (n3 n4 : Int) (b6 : Nat) (h6 h7 : Hp), ab.Ok → bc.Ok → Step [] h2 [] h7 → MB h7 b6 ab → (n3 = 0 → Got h7 (red (red [] A) B) ab) → (n4 = 0 → Got h7 (red (red [] B) C) bc) → law21_MonikerGroups.k28 h7 (mc bc).toArray n3 n4 b6 b2 b0 (Holds h) := fun ab bc n3 n4 b6 h6 h7 kab kbc s7 Mab g3 g4 => by
    unfold law21_MonikerGroups.k28
    intro b7 hb7
    have S7 : Step [] h7 [] (h7.put b7 (.cells (mc bc).toArray T.api_Moniker (0, 0))) := Step.put (.inr hb7)
    have sA := s7.trans S7
    have w26 : law21_MonikerGroups.k26 h7 b7 (mc bc).toArray b0 (Holds h) := by
      unfold law21_MonikerGroups.k26
      rw [newM kbc hb7]
      exact ⟨_, (wx.step sA).all, half sA⟩
    refine ⟨by simpa using mc_len kbc, mc_cellish, freeM, bcase_intro (fun q3 => ?_) fun _ => w26⟩
    have q3 : n3 = 0 := by simpa using q3
    unfold law21_MonikerGroups.k27
    refine bcase_intro (fun q4 => ?_) fun _ => w26
    have q4 : n4 = 0 := by simpa using q4
    have gab := g3 q3
    obtain ⟨wbc, -⟩ := Held.new (g4 q4) hb7
    have wab : Held (h7.put b7 (.cells (mc bc).toArray T.api_Moniker (0, 0))) b6 (red (red [] A) B) ab := ⟨Mab.step S7, gab.step S7⟩
    have wz7 := wz.step sA
    have wx7 := wx.step sA
    unfold law21_MonikerGroups.k25
    rw [newM kbc hb7]
    refine ⟨_, wab.all, _, wz7.all, ?_⟩
    -- both sides
    have go4 : ∀ (u v : Raw) (n : Int) (b8 : Nat) (h9 : Hp), Step [] h2 [] h9 → MB h9 b8 u → (∃ l, Got h9 l u ∧ Got h9 l v) → law21_MonikerGroups.k23 h9 (mc v).toArray n n (Holds h) b8 b0 := fun u v n b8 h9 s9 Mu gg => by
      obtain ⟨l, gu, gv⟩ := gg
      have kv := gv.rt.ok
      unfold law21_MonikerGroups.k23
      intro b9 hb9
      refine ⟨by simpa using mc_len kv, mc_cellish, freeM, bcF (by simp) ?_⟩
      unfold law21_MonikerGroups.k22
      rw [newM kv hb9]
      obtain ⟨wv, S9⟩ := Held.new gv hb9
      have wu : Held (h9.put b9 (.cells (mc v).toArray T.api_Moniker (0, 0))) b8 l u := ⟨Mu.step S9, gu.step S9⟩
      refine ⟨_, wu.all, _, wv.all, wu.g.same wv.g fun h10 s10 => ⟨_, rfl, ?_⟩⟩
      have sT := (s9.trans S9).trans s10
      unfold law21_MonikerGroups.k21
      refine bcF rfl ?_
      unfold law21_MonikerGroups.k20
      exact ⟨_, (wx.step sT).all, half sT⟩
    refine wab.g.rt.join wz7.g.rt (fun le u h8 gu s8 => ⟨_, _, rfl, ?_⟩) fun gt h8 s8 => ⟨_, _, rfl, ?_⟩
    · unfold law21_MonikerGroups.k24
      intro b8 hb8
      have ku := gu.rt.ok
      refine ⟨by simpa using mc_len ku, mc_cellish, freeM, ?_⟩
      rw [newM ku hb8]
      obtain ⟨wu, S8⟩ := Held.new gu hb8
      have wx8 := (wx7.step s8).step S8
      have wbc8 := (wbc.step s8).step S8
      rw [red_assoc] at le wu
      refine ⟨_, wx8.all, _, wbc8.all, wx8.g.rt.join wbc8.g.rt (fun _ v h9 gv s9 => ⟨_, _, rfl, ?_⟩) fun gt => by omega⟩
      exact go4 u v 0 b8 h9 (((sA.trans s8).trans S8).trans s9) (wu.M.step s9) ⟨_, wu.g.step s9, gv⟩
    · unfold law21_MonikerGroups.k24
      intro b8 hb8
      refine ⟨by simpa using mc_len nl_ok, mc_cellish, freeM, ?_⟩
      rw [newM nl_ok hb8]
      have S8 : Step [] h8 [] (h8.put b8 (.cells (mc nl).toArray T.api_Moniker (0, 0))) := Step.put (.inr hb8)
      have Mu : MB (h8.put b8 (.cells (mc nl).toArray T.api_Moniker (0, 0))) b8 nl := put_self
      have wx8 := (wx7.step s8).step S8
      have wbc8 := (wbc.step s8).step S8
      rw [red_assoc] at gt
      refine ⟨_, wx8.all, _, wbc8.all, wx8.g.rt.join wbc8.g.rt (fun le => by omega) fun _ h9 s9 => ⟨_, _, rfl, ?_⟩⟩
      exact go4 nl nl 20 b8 h9 (((sA.trans s8).trans S8).trans s9) (Mu.step s9) ⟨[], got_nl, got_nl⟩
  have go1 : ∀ (ab : Raw) (n3 : Int) (h6 : Hp), ab.Ok → Step [] h2 [] h6 → (n3 = 0 → Got h6 (red (red [] A) B) ab) → law21_MonikerGroups.k29 h6 (mc ab).toArray b1 b2 n3 b0 (Holds h) := fun ab n3 h6 kab s6 g3 => by
    unfold law21_MonikerGroups.k29
    intro b6 hb6
    refine ⟨by simpa using mc_len kab, mc_cellish, freeM, ?_⟩
    rw [newM kab hb6]
    have S6 : Step [] h6 [] (h6.put b6 (.cells (mc ab).toArray T.api_Moniker (0, 0))) := Step.put (.inr hb6)
    have Mab : MB (h6.put b6 (.cells (mc ab).toArray T.api_Moniker (0, 0))) b6 ab := put_self
    have sA := s6.trans S6
    have wy6 := wy.step sA
    have wz6 := wz.step sA
    refine ⟨_, wy6.all, _, wz6.all, wy6.g.rt.join wz6.g.rt (fun _ bc h7 gbc s7 => ⟨_, _, rfl, ?_⟩) fun _ h7 s7 => ⟨_, _, rfl, ?_⟩⟩
    · exact go2 ab bc n3 0 b6 h6 h7 kab gbc.rt.ok (sA.trans s7) (Mab.step s7) (fun e => ((g3 e).step S6).step s7) fun _ => gbc
    · exact go2 ab nl n3 20 b6 h6 h7 kab nl_ok (sA.trans s7) (Mab.step s7) (fun e => ((g3 e).step S6).step s7) fun e => by omega
  refine ⟨_, wx.all, _, wy.all, wx.g.rt.join wy.g.rt (fun _ ab h6 gab s6 => ⟨_, _, rfl, ?_⟩) fun _ h6 s6 => ⟨_, _, rfl, ?_⟩⟩
  · exact go1 ab 0 h6 gab.rt.ok s6 fun _ => gab
  · exact go1 nl 20 h6 nl_ok s6 fun e => by omega
end Go.Den.Mon
end

section
set_option linter.unusedVariables false
set_option maxRecDepth 100000
namespace Go.Den.Mon
open Go Go.Den
variable {h : Hp}
theorem MonikerGroups_said {x y z : Raw} {rx ry rz : List Raw} {mx my mz : Mon} (t : Top h x rx mx) (c : x.sn ≤ x.sc) (t' : Top h y ry my) (c' : y.sn ≤ y.sc) (t'' : Top h z rz mz) (c'' : z.sn ≤ z.sc) (ht : Env h) : HC P law21_MonikerGroups.n #[.agg (mc x).toArray, .agg (mc y).toArray, .agg (mc z).toArray] h (Holds h) := MonikerGroups_holds ht t t' t''
end Go.Den.Mon
end

