import Derived.Test.YtngngmkgkhmomaaDoorDenR
import Derived.PinnedBridge
import Derived.Lib.LaidCase
import Derived.LaidMore
import Derived.KernelRfl
/- Texts that the claim needs, joined. -/
section
set_option linter.unusedVariables false
set_option maxRecDepth 100000
namespace Go.Den.Mon
open Go Go.Den Go.ChangeShapes Go.WideShapes Go.ChangeAt Go.RowKit
theorem slices_in2 {H : Type} {enc : TypeId × Value → H} {P : Program} {W : World} {spare : Nat → Bool} {held : Bool} {fuel : Nat} {t e : TypeId} {sz : Nat} {sa : Option Addr} {len cap : Nat} {x : DataW H × List MemPlace}
    (ht : P.underlying t = some (.slice e)) (hc : P.cellsOf e = sz) (hz : 0 < sz) (h : DataW.trod enc P W 0 spare held fuel t [.slice sa len cap] = some x) :
    ∃ (rows : List (List Value)) (n : Nat), n < fuel ∧ len ≤ cap ∧ rows.length = len ∧ len < 9223372036854775808 ∧ (∀ r ∈ rows, r.length = sz) ∧ SrcAt (hp W) sz (.slice sa len cap) len rows.flatten ∧
      ∀ (i : Nat) (r : List Value), rows[i]? = some r → ∃ y, DataW.trod enc P W 0 spare held n e r = some y := by
  have f0 : 0 < fuel := by
    cases fuel with
    | zero => simp [DataW.trod] at h
    | succ n => omega
  rcases DataW.trod_slice ht h with ⟨hcs, hx⟩ | ⟨a, len', cap', elems, rest, n, hfn, hcs, _, hb, hl, hm, hlen, hel, hsp, hns⟩
  · simp at hcs
    obtain ⟨rfl, rfl, rfl⟩ := hcs
    exact ⟨[], 0, f0, Nat.le_refl _, rfl, by omega, by simp, .none, fun i v hv => by simp at hv⟩
  · simp at hcs
    obtain ⟨rfl, rfl, rfl⟩ := hcs
    have hM : maxLen = 9223372036854775807 := by decide
    have each : ∀ i, i < len → ∃ r y, W.cells? 0 (a.add (i * sz)) sz = some r ∧ r.length = sz ∧ (∀ j v, r[j]? = some v → W.cell? ((a.add (i * sz)).add j) = some v) ∧ DataW.trod enc P W 0 spare held n e r = some y := by
      intro i hi
      have := hel i hi
      rw [hc, List.getElem?_eq_getElem (by omega), Option.bind_eq_some_iff] at this
      obtain ⟨cs', hcs, hy⟩ := this
      obtain ⟨-, hl1, hc1⟩ := World.cells?_some hcs
      refine ⟨cs', _, hcs, hl1, fun j v hv => ?_, hy⟩
      have hj := (List.getElem?_eq_some_iff.1 hv).1
      rw [hc1 j (by omega), hv]
    have hget : ∀ {i : Nat} {r : List Value}, ((List.range len).map fun i => (W.cells? 0 (a.add (i * sz)) sz).getD [])[i]? = some r → i < len ∧ ∃ y, W.cells? 0 (a.add (i * sz)) sz = some r ∧ r.length = sz ∧ (∀ j v, r[j]? = some v → W.cell? ((a.add (i * sz)).add j) = some v) ∧ DataW.trod enc P W 0 spare held n e r = some y := by
      intro i r hr
      rw [List.getElem?_map] at hr
      cases hj : (List.range len)[i]? with
      | none => rw [hj] at hr; cases hr
      | some j =>
        obtain ⟨hlt, hj2⟩ := List.getElem?_eq_some_iff.1 hj
        rw [List.getElem_range] at hj2
        subst hj2
        rw [hj] at hr
        have hlt' : i < len := by simpa using hlt
        obtain ⟨r', y, h1, h2, h3, h4⟩ := each i hlt'
        rw [Option.map_some, h1, Option.getD_some] at hr
        cases hr
        exact ⟨hlt', y, h1, h2, h3, h4⟩
    have hsz : ∀ r ∈ (List.range len).map fun i => (W.cells? 0 (a.add (i * sz)) sz).getD [], r.length = sz := by
      intro r hr
      obtain ⟨i, hi⟩ := List.mem_iff_getElem?.1 hr
      obtain ⟨-, y, -, h2, -⟩ := hget hi
      exact h2
    refine ⟨(List.range len).map fun i => (W.cells? 0 (a.add (i * sz)) sz).getD [], n, by omega, hl, by simp, by omega, hsz, .some ⟨by rw [List.size_toArray, flatten_len hsz]; simp, fun j v hv => ?_⟩, fun i r hr => ?_⟩
    · rw [List.getElem?_toArray] at hv
      have hj : j = (j / sz) * sz + j % sz := by have := Nat.div_add_mod j sz; rw [Nat.mul_comm] at this; exact this.symm
      rw [hj, flatten_get hsz (Nat.mod_lt _ hz), Option.bind_eq_some_iff] at hv
      obtain ⟨r, hr, hv⟩ := hv
      obtain ⟨-, y, h1, h2, h3, h4⟩ := hget hr
      have := h3 _ _ hv
      rw [addr_add_add, ← hj] at this
      rw [hp_cell?]; exact this
    · obtain ⟨-, y, h1, h2, h3, h4⟩ := hget hr
      exact ⟨y, h4⟩
theorem deeps {h : Hp} : ∀ {rows : List (List Value)}, (∀ r ∈ rows, ∃ (x : Raw) (m : Mon), r = mc x ∧ Deep h x m) → ∃ (xs : List Raw) (ms : List Mon), xs.length = rows.length ∧ rows.flatten = mcs xs ∧ (∀ x ∈ xs, x.Ok) ∧ ms.length = xs.length ∧
    ∀ (i : Nat) (r : Raw) (m : Mon), xs[i]? = some r → ms[i]? = some m → Deep h r m
  | [], _ => ⟨[], [], rfl, rfl, by simp, rfl, by simp⟩
  | r :: rows, hr => by
    obtain ⟨x, m, rfl, d⟩ := hr r (by simp)
    obtain ⟨xs, ms, h1, h2, h3, h4, h5⟩ := deeps (rows := rows) fun q hq => hr q (by simp [hq])
    refine ⟨x :: xs, m :: ms, by simp [h1], by simp [h2, mcs], fun y hy => ?_, by simp [h4], fun i q n hq hn => ?_⟩
    · rcases List.mem_cons.1 hy with rfl | hy
      · exact d.ok
      · exact h3 y hy
    · cases i with
      | zero => simp at hq hn; subst hq; subst hn; exact d
      | succ i => exact h5 i q n (by simpa using hq) (by simpa using hn)
theorem cut5 {cs : List Value} (hl : cs.length = 20) {a b c d e : List Value} (h0 : (cs.drop 0).take 1 = a) (h1 : (cs.drop 1).take 16 = b) (h2 : (cs.drop 17).take 1 = c) (h3 : (cs.drop 18).take 1 = d) (h4 : (cs.drop 19).take 1 = e) : cs = a ++ (b ++ (c ++ (d ++ e))) := by
  subst h0 h1 h2 h3 h4
  have q4 : (cs.drop 19).take 1 = cs.drop 19 := List.take_of_length_le (by rw [List.length_drop]; omega)
  have q3 : (cs.drop 18).take 1 ++ cs.drop 19 = cs.drop 18 := by
    have := List.take_append_drop 1 (cs.drop 18); rwa [List.drop_drop] at this
  have q2 : (cs.drop 17).take 1 ++ cs.drop 18 = cs.drop 17 := by
    have := List.take_append_drop 1 (cs.drop 17); rwa [List.drop_drop] at this
  have q1 : (cs.drop 1).take 16 ++ cs.drop 17 = cs.drop 1 := by
    have := List.take_append_drop 16 (cs.drop 1); rwa [List.drop_drop] at this
  rw [q4, q3, q2, q1, List.drop_zero, List.take_append_drop]
theorem deep_of {H : Type} {enc : TypeId × Value → H} {W : World} {spare : Nat → Bool} {held : Bool} (fuel : Nat) : ∀ {cs : List Value} {y : DataW H × List MemPlace}, DataW.trod enc P W 0 spare held fuel T.api_Moniker cs = some y →
    ∃ (x : Raw) (rows : List Raw) (m : Mon), cs = mc x ∧ Top (hp W) x rows m ∧ x.sn ≤ x.sc := by
  induction fuel using Nat.strongRecOn with
  | ind fuel ih =>
    intro cs y ht
    obtain ⟨xs, n, hn, -, hlen, hxs, hf⟩ := DataW.trod_struct Go.Proofs.Tryd.underlying27 ht
    have hlen : cs.length = 20 := by rw [hlen]; kernel_rfl
    have hxs : xs.length = 5 := hxs
    have f0 := hf 0 _ rfl
    have f1 := hf 1 _ rfl
    have f2 := hf 2 _ rfl
    have f3 := hf 3 _ rfl
    have f4 := hf 4 _ rfl
    rw [List.getElem?_eq_getElem (by omega)] at f0 f1 f2 f3 f4
    have c3 : P.cellsOf 3 = 1 := by kernel_rfl
    have c23 : P.cellsOf 23 = 16 := by kernel_rfl
    have c9 : P.cellsOf 9 = 1 := by kernel_rfl
    have c24 : P.cellsOf 24 = 1 := by kernel_rfl
    have c25 : P.cellsOf 25 = 1 := by kernel_rfl
    change DataW.trod enc P W 0 spare held n 3 ((cs.drop 0).take (P.cellsOf 3)) = _ at f0
    change DataW.trod enc P W 0 spare held n 23 ((cs.drop 1).take (P.cellsOf 23)) = _ at f1
    change DataW.trod enc P W 0 spare held n 9 ((cs.drop 17).take (P.cellsOf 9)) = _ at f2
    change DataW.trod enc P W 0 spare held n 24 ((cs.drop 18).take (P.cellsOf 24)) = _ at f3
    change DataW.trod enc P W 0 spare held n 25 ((cs.drop 19).take (P.cellsOf 25)) = _ at f4
    rw [c3] at f0; rw [c23] at f1; rw [c9] at f2; rw [c24] at f3; rw [c25] at f4
    obtain ⟨k, e0, -, w0⟩ := DataW.trod_int (k := .i64) (by kernel_rfl) f0
    obtain ⟨g, e1', g1, g2⟩ := bytes_of (flat_of 9 (ks := List.replicate 16 (.int .u8)) (by kernel_rfl) f1)
    obtain ⟨s, e2, -, w2⟩ := DataW.trod_string (by kernel_rfl) f2
    obtain ⟨u, e3, -, w3⟩ := DataW.trod_int (k := .u64) (by kernel_rfl) f3
    obtain ⟨u', rfl, hu⟩ := wf_u64 w3
    obtain ⟨sa, sn, sc, e4⟩ : ∃ sa sn sc, (cs.drop 19).take 1 = [.slice sa sn sc] := by
      rcases DataW.trod_slice Go.Proofs.Tryd.underlying25 f4 with ⟨q, -⟩ | ⟨a, l, c, -, -, -, -, q, -⟩
      · exact ⟨_, _, _, q⟩
      · exact ⟨_, _, _, q⟩
    rw [e4] at f4
    obtain ⟨rws, n', hn', hcap, h1, h2, h3, h4, h5⟩ := slices_in2 (sz := 20) Go.Proofs.Tryd.underlying25 (by kernel_rfl) (by omega) f4
    obtain ⟨rows, ms, r1, r2, r3, r4, r5⟩ := deeps (h := hp W) (rows := rws) fun r hr => by
      obtain ⟨i, hi⟩ := List.mem_iff_getElem?.1 hr
      obtain ⟨y', hy'⟩ := h5 i r hi
      obtain ⟨x, rows', m, e, t, -⟩ := ih n' (by omega) hy'
      exact ⟨x, m, e, t.deep⟩
    have ok : (⟨k, g, s, u', sa, sn, sc⟩ : Raw).Ok := ⟨⟨g1, g2⟩, hu, wf_i64 w0, by
      have : maxLen = 9223372036854775807 := rfl
      show s.size ≤ _; omega⟩
    rw [r2] at h4
    refine ⟨⟨k, g, s, u', sa, sn, sc⟩, rows, _, ?_, ⟨.mk (x := ⟨k, g, s, u', sa, sn, sc⟩) ok h2 (by rw [r1, h1]) h4 r3 r4 r5, h4, r3, by rw [r1, h1]⟩, hcap⟩
    rw [cut5 hlen e0 e1' e2 e3 e4]
    rfl
/-- A moniker that is handed in. -/
theorem mon_in {H : Type} {enc : TypeId × Value → H} {W : World} {base : Nat} {r : Reach} {spare : Nat → Bool} {held : Bool} {v : Value} {d : DataW H} {p : List MemPlace}
    (hval : Value.okWide P W r base T.api_Moniker v) (h : DataW.Trod enc P W 0 spare held T.api_Moniker v d p) : ∃ (x : Raw) (rows : List Raw) (m : Mon), v = .agg (mc x).toArray ∧ Top (hp W) x rows m ∧ x.sn ≤ x.sc := by
  obtain ⟨fuel, hf⟩ := h
  unfold Value.okWide at hval
  rw [show P.underlying T.api_Moniker = _ from Go.Proofs.Tryd.underlying27] at hval
  obtain ⟨cs, rfl, -⟩ := hval
  obtain ⟨x, rows, m, e, t, hc⟩ := deep_of fuel hf
  exact ⟨x, rows, m, by rw [← e]; rfl, t, hc⟩
end Go.Den.Mon
end

section
set_option linter.unusedVariables false
set_option maxRecDepth 100000
namespace Go.Den.Mon
open Go Go.Den Go.Proofs Go.Lib
theorem iface_cells {H : Type} {enc : TypeId × Value → H} {w : World} {base : Nat} {spare : Nat → Bool} {held : Bool} {fuel : Nat} {t : TypeId} {cs : List Value} {x : DataW H × List MemPlace} {ms : Array (String × TypeId)} (hi : P.underlying t = some (.interface ms))
    (h : DataW.trod enc P w base spare held fuel t cs = some x) : cs = [.nilIface] ∨ ∃ u v, cs = [.iface u v] := by
  cases fuel with
  | zero => simp [DataW.trod] at h
  | succ n =>
    unfold DataW.trod at h
    rw [hi] at h
    split at h <;> simp_all
def deb : List Int := [0, 1, 56, 2, 57, 49, 28, 3, 61, 58, 42, 50, 38, 29, 17, 4, 62, 47, 59, 36, 45, 43, 51, 22, 53, 39, 33, 30, 24, 18, 12, 5, 63, 55, 48, 27, 60, 41, 37, 16, 46, 35, 44, 21, 52, 32, 23, 11, 54, 26, 40, 15, 34, 20, 31, 10, 25, 14, 19, 9, 13, 8, 7, 6]
theorem env_reads {W : World} (r1 : VarReads P W "unicode/utf8.acceptRanges" Lib.acceptData) (r2 : VarReads P W "unicode.CaseRanges" Pinned.caseRanges) (r3 : VarReads P W "unicode/utf8.first" Pinned.utf8First)
    (r4 : VarReads P W "math/bits.deBruijn64tab" (tabData .u8 deb)) {F : DataW Unit} (r5 : VarReads P W "strconv.ErrSyntax" F) : Env (hp W) := by
  rw [Pinned.caseRanges_eq] at r2
  rw [Pinned.utf8First_eq] at r3
  have c := caseVar_of_reads (ρ := Tryd.lays159_ren) { Tryd.lays159 with } Tryd.lays159.t206 ⟨by kernel_rfl, by kernel_rfl, by kernel_rfl, by kernel_rfl, by kernel_rfl, by kernel_rfl⟩ r2
  have u := utf8Tabs_of_reads (ρ := Tryd.lays159_ren) { Tryd.lays159 with } ⟨by kernel_rfl, by kernel_rfl, by kernel_rfl, by kernel_rfl, by kernel_rfl, by kernel_rfl, by kernel_rfl⟩ r3 r1
  refine ⟨⟨W, c, u, Step.refl _ _⟩, ?_, ?_⟩
  · obtain ⟨g, t, cs, fuel, p, hg, hty, hvar, hd⟩ := r4
    obtain rfl := Option.some.inj ((show P.globalNamed "math/bits.deBruijn64tab" = some 8 by kernel_rfl).symm.trans hg)
    obtain rfl := Option.some.inj ((show (P.globals[8]?).map (·.type) = some 142 by kernel_rfl).symm.trans hty)
    have hcs := cells_of_tab (P := P) (n := 64) (e := 5) Go.Proofs.Tryd.underlying142 Go.Proofs.Tryd.underlying5 (by kernel_rfl) (by kernel_rfl) hd
    rw [hp_cell?, World.var?_cell hg hvar 15, ← Array.getElem?_toList, hcs]
    rfl
  · obtain ⟨g, t, cs, fuel, p, hg, hty, hvar, hd⟩ := r5
    obtain rfl := Option.some.inj ((show P.globalNamed "strconv.ErrSyntax" = some 2 by kernel_rfl).symm.trans hg)
    obtain rfl := Option.some.inj ((show (P.globals[2]?).map (·.type) = some 58 by kernel_rfl).symm.trans hty)
    have q := World.var?_cell hg hvar 0
    rw [← Array.getElem?_toList] at q
    rcases iface_cells Go.Proofs.Tryd.underlying58 hd with e | ⟨u, v, e⟩
    · rw [e] at q
      exact ⟨_, by rw [hp_cell?]; exact q, .inl rfl⟩
    · rw [e] at q
      exact ⟨_, by rw [hp_cell?]; exact q, .inr ⟨_, _, rfl⟩⟩
theorem env_of {W : World} {A B C D E F : DataW Unit} (hB : B = tabData .u8 deb) (hD : D = Lib.acceptData) (hn : ([("math/bits.deBruijn32tab", A), ("math/bits.deBruijn64tab", B), ("internal/strconv.uint64pow10", C), ("unicode/utf8.acceptRanges", D), ("strconv.ErrRange", E), ("strconv.ErrSyntax", F), ("unicode.CaseRanges", Pinned.caseRanges), ("unicode/utf8.first", Pinned.utf8First)].all fun x => x.2.handleName?.isNone) = true)
    (h : laidMetH P [("math/bits.deBruijn32tab", A), ("math/bits.deBruijn64tab", B), ("internal/strconv.uint64pow10", C), ("unicode/utf8.acceptRanges", D), ("strconv.ErrRange", E), ("strconv.ErrSyntax", F), ("unicode.CaseRanges", Pinned.caseRanges), ("unicode/utf8.first", Pinned.utf8First)] W) : Env (hp W) := by
  subst hB hD
  rw [MakeChecks.laidMetH_plain _ _ _ hn] at h
  exact env_reads (Lib.laidMet.reads h (n := "unicode/utf8.acceptRanges") (.tail _ (.tail _ (.tail _ (.head _))))) (Lib.laidMet.reads h (n := "unicode.CaseRanges") (.tail _ (.tail _ (.tail _ (.tail _ (.tail _ (.tail _ (.head _)))))))) (Lib.laidMet.reads h (n := "unicode/utf8.first") (.tail _ (.tail _ (.tail _ (.tail _ (.tail _ (.tail _ (.tail _ (.head _)))))))))
    (Lib.laidMet.reads h (n := "math/bits.deBruijn64tab") (.tail _ (.head _))) (Lib.laidMet.reads h (n := "strconv.ErrSyntax") (.tail _ (.tail _ (.tail _ (.tail _ (.tail _ (.head _)))))))
end Go.Den.Mon
end

section
set_option linter.unusedVariables false
set_option maxRecDepth 100000
namespace Go.Den.Mon
open Go Go.Den
variable {h : Hp} {K : Value → Hp → Prop}
theorem Deep.leaf {r : Raw} {m : Mon} (d : Deep h r m) (h0 : r.sn = 0) : m = leaf r := by
  cases d with
  | @mk _ rows ms _ _ hl _ _ hm _ =>
    have : ms = [] := List.length_eq_zero_iff.1 (by omega)
    subst this
    rfl
end Go.Den.Mon
end

section
set_option linter.unusedVariables false
set_option maxRecDepth 100000
namespace Go.Den.Mon
open Go Go.Den
variable {h : Hp} {K : Value → Hp → Prop}
theorem prt_len {x : Raw} {rows : List Raw} {m : Mon} (t : Top h x rows m) : (prt x rows).length ≤ 64 := by
  unfold prt
  split
  · exact parts_len t ‹_›
  · simp
theorem parts_spec {x : Raw} {rows : List Raw} {m : Mon} (t : Top h x rows m) {n0 : Nat} (hn0 : n0 < 1000000)
    (hk : ∀ a c o h', SlAt h' T.api_Moniker 20 AnyV a ((prt x rows).take n0).length c (mcs ((prt x rows).take n0)) o → (∀ r ∈ (prt x rows).take n0, r.Ok) → Step [] h o h' → K (.slice a ((prt x rows).take n0).length c) h') :
    HC P law21_parts.n #[.agg (mc x).toArray, .int .i64 (n0 : Int)] h K := by
  have k := t.deep.ok
  have pl := prt_len t
  refine law21_parts.hc ?_
  unfold law21_parts
  intro b0 hb0 b1 hb1 b2 hb2
  have n01 : b0 ≠ b1 := fun q => by rw [← q, put_self] at hb1; cases hb1
  have n12 : b1 ≠ b2 := fun q => by rw [← q, put_self] at hb2; cases hb2
  have n02 : b0 ≠ b2 := fun q => by rw [← q, put_ne n01, put_self] at hb2; cases hb2
  have f1 : h b1 = none := by rw [put_ne (Ne.symm n01)] at hb1; exact hb1
  have f2 : h b2 = none := by rw [put_ne (Ne.symm n12), put_ne (Ne.symm n02)] at hb2; exact hb2
  obtain ⟨H, hH⟩ : ∃ H, H = ((h.put b0 (.cells (mc x).toArray T.api_Moniker (0, 0))).put b1 (.cells #[.int .i64 (n0 : Int)] T.int (0, 0))).put b2 (.cells #[.slice none 0 0] T.sl_api_Moniker (0, 0)) := ⟨_, rfl⟩
  have M : MB H b0 x := by rw [hH]; show _ = _; rw [put_ne n02, put_ne n01, put_self]
  have V1 : H b1 = some (.cells #[.int .i64 (n0 : Int)] T.int (0, 0)) := by rw [hH, put_ne n12, put_self]
  have V2 : H b2 = some (.cells #[.slice none 0 0] T.sl_api_Moniker (0, 0)) := by rw [hH, put_self]
  have S0 : Step [] h [b2] H := by rw [hH]; exact ((Step.put (.inr hb0)).trans (Step.put (.inr hb1))).trans (Step.new hb2)
  rw [← hH]
  refine ⟨_, M.all k, moniker_Parts.hc ?_⟩
  unfold moniker_Parts
  intro bF hbF
  refine ⟨_, _, _, rfl, ?_⟩
  unfold law21_parts.k4
  refine trueD_intro (by kernel_rfl) ?_
  intro l0 R0 hl0 hyall
  have nlF : l0 ≠ bF := fun q => by rw [q, put_self] at hl0; cases hl0
  have fl : H l0 = none := by rw [put_ne nlF] at hl0; exact hl0
  have nl1 : l0 ≠ b1 := fun q => by rw [q, V1] at fl; cases fl
  have nl2 : l0 ≠ b2 := fun q => by rw [q, V2] at fl; cases fl
  have nF1 : bF ≠ b1 := fun q => by rw [q, V1] at hbF; cases hbF
  have nF2 : bF ≠ b2 := fun q => by rw [q, V2] at hbF; cases hbF
  obtain ⟨H1, hH1⟩ : ∃ H1, H1 = (H.put bF (.cells (mc x).toArray T.api_Moniker (0, 0))).put l0 R0.ready := ⟨_, rfl⟩
  have S1 : ∀ q, Step q H q H1 := fun q => by rw [hH1]; exact (Step.put (.inr hbF)).trans (Step.put (.inr hl0))
  have HF : MB H1 bF x := by rw [hH1]; show _ = _; rw [put_ne (Ne.symm nlF), put_self]
  have HL : H1 l0 = some R0.ready := by rw [hH1, put_self]
  have W1 : H1 b1 = some (.cells #[.int .i64 (n0 : Int)] T.int (0, 0)) := (S1 []).keepB0 V1
  have W2 : H1 b2 = some (.cells #[.slice none 0 0] T.sl_api_Moniker (0, 0)) := (S1 []).keepB0 V2
  have toH : ∀ {o : List Nat} {hh : Hp} {X : Obj}, l0 ∉ o → Step [b2, l0] H1 (o ++ [b2, l0]) hh → Step [] h o (hh.put l0 X) := fun {o hh X} hno s => by
    have s1 : Step [b2, l0] H (o ++ [b2, l0]) (hh.put l0 X) := ((S1 _).trans s).trans (Step.put (.inl (by simp)))
    refine ⟨fun q hq _ => ?_, fun q hq => ?_, fun q hq => s1.dom q (S0.dom q hq)⟩
    · have q1 : q ≠ b2 := fun e => hq (by rw [e]; exact f2)
      have q2 : q ≠ l0 := fun e => S0.dom q hq (by rw [e]; exact fl)
      rw [s1.keep q (S0.dom q hq) (by simp [q1, q2])]
      exact S0.keep q hq (by simp)
    · right
      rcases s1.own q (by simp [hq]) with z | z
      · simp at z
        rcases z with z | z
        · rw [z]; exact f2
        · exact absurd hq (by rw [z]; exact hno)
      · exact Classical.byContradiction fun e => S0.dom q e z
  refine partsIt_spec (l0 := l0) (bF := bF) (h := (H.put bF (.cells (mc x).toArray T.api_Moniker (0, 0))).put l0 R0.ready) (m := m) (by rw [← hH1]; exact (t.step S0.forget0).step (S1 [])) (by rw [← hH1]; exact HF)
    (fun i hh => ∃ o1, Out hh b2 ((prt x rows).take i) o1 ∧ hh l0 = some R0.ready ∧ l0 ∉ o1 ∧ b1 ∉ o1 ∧ hh b1 = some (.cells #[.int .i64 (n0 : Int)] T.int (0, 0)) ∧ i ≤ n0 ∧ Step [b2, l0] H1 (o1 ++ [b2, l0]) hh)
    (fun hh => ∃ o1, Out hh b2 ((prt x rows).take n0) o1 ∧ hh l0 = some (R0.done (.exit 0)) ∧ l0 ∉ o1 ∧ Step [b2, l0] H1 (o1 ++ [b2, l0]) hh) ?_ ?_ ?_ ?_ ?_ ?_
  · rw [← hH1]
    exact ⟨[], ⟨⟨none, 0, by simpa using W2, (.none : SlAt H1 T.api_Moniker 20 AnyV none 0 0 [] [])⟩, by simp, by simp⟩, HL, by simp, by simp, W1, by omega, Step.refl _ _⟩
  · rintro i hh hh' ⟨o1, g1, g2, g3, g4, g5, g6, g7⟩ st
    refine ⟨o1, g1.keep fun q hq => ?_, st.keepB0 g2, g3, g4, st.keepB0 g5, g6, g7.trans (by simpa using st.frame (o1 ++ [b2, l0]))⟩
    refine st.keep q ?_ (by simp)
    obtain ⟨a', c', e', s'⟩ := g1.row
    rcases hq with rfl | hq
    · rw [e']; simp
    · exact s'.mem q hq
  · rintro i hh ⟨o1, g1, g2, g3, g4, g5, g6, g7⟩
    rw [← hH1]
    refine ⟨g7.keep bF (by rw [HF]; simp) (by simp [nF2, Ne.symm nlF]), fun q eq en hq => g7.keep _ hq ?_⟩
    have d := t.blk q eq en
    have d1 : q.block ≠ b2 := fun z => d (by rw [z]; exact f2)
    have d2 : q.block ≠ l0 := fun z => S0.dom _ d (by rw [z]; exact fl)
    simp [d1, d2]
  · rintro i r hh C hi ⟨o1, g1, g2, g3, g4, g5, g6, g7⟩ yes no
    have kr := prt_ok t r (List.mem_of_getElem? hi)
    have il : i < (prt x rows).length := (List.getElem?_eq_some_iff.1 hi).1
    have tl : ((prt x rows).take i).length = i := by rw [List.length_take]; omega
    refine hyall (mc r).toArray hh C g2 ?_
    intro b3 hb3
    have n3l : b3 ≠ l0 := fun q => by rw [q, g2] at hb3; cases hb3
    have n31 : b3 ≠ b1 := fun q => by rw [q, g5] at hb3; cases hb3
    obtain ⟨a, c, e, s⟩ := g1.row
    have n32 : b3 ≠ b2 := fun q => by rw [q, e] at hb3; cases hb3
    have n3o : ∀ q ∈ o1, q ≠ b3 := fun q hq z => s.mem q hq (by rw [z]; exact hb3)
    have e3 := newM kr hb3
    refine ⟨by simpa using mc_len kr, mc_cellish, freeM, by rw [e3, put_ne (Ne.symm n3l)]; exact g2, a, _, c, by rw [e3, cell_of (cs := #[.slice a ((prt x rows).take i).length c]) (T := T.sl_api_Moniker) (f := (0, 0)) (by rw [put_ne (Ne.symm nl2), put_ne (Ne.symm n32)]; exact e)]; rfl, _, by rw [e3, cell_of (cs := #[.int .i64 (n0 : Int)]) (T := T.int) (f := (0, 0)) (by rw [put_ne (Ne.symm nl1), put_ne (Ne.symm n31)]; exact g5)]; rfl, bcase_intro (fun hc => ?_) fun hc => ?_⟩
    · have hc : i = n0 := by have := of_decide_eq_true hc; rw [tl] at this; omega
      unfold law21_parts.k0
      rw [e3]
      refine ⟨put_self, no _ ⟨o1, ?_, put_self, g3, ?_⟩⟩
      · rw [← hc]
        exact g1.keep fun q hq => by
          have q1 : q ≠ l0 := fun z => by
            rcases hq with hq | hq
            · exact nl2 (by rw [← z, hq])
            · exact g3 (by rw [← z]; exact hq)
          have q2 : q ≠ b3 := fun z => by
            rcases hq with hq | hq
            · exact n32 (by rw [← z, hq])
            · exact n3o q hq z
          rw [put_ne q1, put_ne q1, put_ne q2]
      · exact ((g7.trans (Step.put (.inr hb3))).trans (Step.put (.inl (by simp)))).trans (Step.put (.inl (by simp)))
    · have hc : i < n0 := by have := of_decide_eq_false hc; rw [tl] at this; omega
      have push := redPush (h2 := hh) (b0 := b2) (b2 := b3) (l0 := l0) (x := r) (out := (prt x rows).take i) (o := o1) (R0 := R0) (K0 := C) kr g1 g2 g3 nl2 hb3 (by omega) fun o' h' q1 q2 q3 q4 => yes h' ⟨o', by rw [List.take_add_one, hi]; exact q1, q2, q3, fun z => ?_, ?_, by omega, g7.trans q4⟩
      · exact push
      · rcases q4.own b1 (by simp [z]) with y | y
        · simp at y
          rcases y with y | y | y
          · exact g4 y
          · exact n12 y
          · exact nl1 y.symm
        · rw [g5] at y; cases y
      · rw [q4.keep b1 (by rw [g5]; simp) (by simp [g4, n12, Ne.symm nl1])]; exact g5
  · rintro hh ⟨o1, g1, g2, g3, g4, g5, g6, g7⟩
    obtain ⟨a, c, e, s⟩ := g1.row
    have et : (prt x rows).take (prt x rows).length = (prt x rows).take n0 := by rw [List.take_length, List.take_of_length_le g6]
    rw [et] at e s
    unfold law21_parts.k3
    refine .inl ⟨g2, a, _, c, by rw [cell_of (cs := #[.slice a ((prt x rows).take n0).length c]) (T := T.sl_api_Moniker) (f := (0, 0)) (by rw [put_ne (Ne.symm nl2)]; exact e)]; rfl, ?_⟩
    exact hk a c o1 _ (s.keep fun q hq => put_ne fun z => g3 (by rw [← z]; exact hq)) (fun r hr => prt_ok t r (List.mem_of_mem_take hr)) (toH g3 g7)
  · rintro hh ⟨o1, g1, g2, g3, g7⟩
    obtain ⟨a, c, e, s⟩ := g1.row
    unfold law21_parts.k3
    refine .inr (.inl ⟨g2, a, _, c, by rw [cell_of (cs := #[.slice a ((prt x rows).take n0).length c]) (T := T.sl_api_Moniker) (f := (0, 0)) (by rw [put_ne (Ne.symm nl2)]; exact e)]; rfl, ?_⟩)
    exact hk a c o1 _ (s.keep fun q hq => put_ne fun z => g3 (by rw [← z]; exact hq)) (fun r hr => prt_ok t r (List.mem_of_mem_take hr)) (toH g3 g7)
end Go.Den.Mon
end

section
set_option linter.unusedVariables false
set_option maxRecDepth 100000
namespace Go.Den.Mon
open Go Go.Den
variable {h : Hp} {K : Value → Hp → Prop}
/-! ### In plain words -/
/-! ### Right ones -/
def Rt (h : Hp) (l : List Raw) (x : Raw) : Prop := ∃ rows m, Top h x rows m ∧ partsOf x rows = l ∧ rright x rows = true
section
variable {h' : Hp} {l l' : List Raw} {x y : Raw}
theorem Got.rt (g : Got h l x) : Rt h l x := by obtain ⟨rows, t, a, b⟩ := g; exact ⟨rows, _, t, a, b⟩
theorem Rt.step (g : Rt h l x) (s : Step [] h [] h') : Rt h' l x := by obtain ⟨rows, m, t, a, b⟩ := g; exact ⟨rows, m, t.step s, a, b⟩
theorem Rt.ok (g : Rt h l x) : x.Ok := by obtain ⟨rows, m, t, a, b⟩ := g; exact t.deep.ok
theorem Rt.len (g : Rt h l x) : l.length ≤ 64 := by obtain ⟨rows, m, t, a, b⟩ := g; rw [← a]; exact parts_len t b
theorem Got.same (g : Got h l x) (g' : Got h l y) (hk : ∀ h', Step [] h [] h' → K (.bool true) h') : HC P ref21_Same.n #[.agg (mc x).toArray, .agg (mc y).toArray] h K := by
  obtain ⟨rows, t, -, -⟩ := g
  obtain ⟨rows', t', -, -⟩ := g'
  refine rSame_spec t.deep h y _ _ (Step.refl _ _) t'.deep fun r h2 hr s2 => ?_
  rw [hr.2 rfl]; exact hk h2 s2
end
/-- A result laid in a block of the law's own. -/
structure Held (hh : Hp) (b : Nat) (l : List Raw) (x : Raw) : Prop where
  M : MB hh b x
  g : Got hh l x
section
variable {h' : Hp} {l l' : List Raw} {x y : Raw} {b : Nat}
theorem Held.step (w : Held h b l x) (s : Step [] h [] h') : Held h' b l x := ⟨w.M.step s, w.g.step s⟩
theorem Held.all (w : Held h b l x) : CellsAt h ⟨b, 0, none⟩ 20 (mc x).toArray := w.M.all w.g.rt.ok
theorem Held.new (g : Got h l x) (hb : h b = none) : Held (h.put b (.cells (mc x).toArray T.api_Moniker (0, 0))) b l x ∧ Step [] h [] (h.put b (.cells (mc x).toArray T.api_Moniker (0, 0))) :=
  ⟨⟨put_self, g.step (Step.put (.inr hb))⟩, Step.put (.inr hb)⟩
end
/-- What a law of right monikers keeps. -/
structure Kp (h hh : Hp) : Prop where
  E : Env hh
  st : Step [] h [] hh
theorem Kp.step {hh h' : Hp} (w : Kp h hh) (s : Step [] hh [] h') : Kp h h' := ⟨w.E.step s, w.st.trans s⟩
theorem Kp.aw {hh : Hp} (w : Kp h hh) : HC P law21_awake.n #[] hh (fun v h3 => (∃ b2 : Bool, (v = (.bool b2)) ∧ Holds h (.bool b2) h3)) := awake_spec w.E fun h3 s3 => ⟨true, rfl, rfl, w.st.trans s3⟩
end Go.Den.Mon
end

section
set_option linter.unusedVariables false
set_option maxRecDepth 100000
namespace Go.Den.Mon
open Go Go.Den
variable {h : Hp} {K : Value → Hp → Prop}
/-- What a heap of the law holds: both monikers, and three results. -/
structure JH (h : Hp) (x y : Raw) (rx ry : List Raw) (mx my : Mon) (b0 b1 b5 b6 b7 : Nat) (ab r v : Raw) (hh : Hp) : Prop where
  a : Own h x rx mx b0 hh
  b : Own h y ry my b1 hh
  m5 : MB hh b5 ab
  m6 : MB hh b6 r
  m7 : MB hh b7 v
section
variable {x y : Raw} {rx ry : List Raw} {mx my : Mon} {b0 b1 b5 b6 b7 : Nat} {ab r v : Raw} {hh h' : Hp}
theorem JH.step (w : JH h x y rx ry mx my b0 b1 b5 b6 b7 ab r v hh) (s : Step [] hh [] h') : JH h x y rx ry mx my b0 b1 b5 b6 b7 ab r v h' :=
  ⟨w.a.step s, w.b.step s, w.m5.step s, w.m6.step s, w.m7.step s⟩
/-- What b12 is written over with. -/
theorem JH.wr {g : Hp} {b12 : Nat} {z0 y1 : Raw} {h24 : Hp} {o : List Nat} (TT : Step [] g (o ++ [b12]) hh) (V : MB hh b12 z0) (kz : z0.Ok) (ky : y1.Ok) (s : Step [] hh [] h24) :
    h24.setCells ⟨b12, 0, none⟩ (mc y1).toArray = h24.put b12 (.cells (mc y1).toArray T.api_Moniker (0, 0)) ∧ Free h24 ⟨b12, 0, none⟩ 20 ∧ Step [] g [b12] (h24.put b12 (.cells (mc y1).toArray T.api_Moniker (0, 0))) := by
  have V2 := V.step s
  refine ⟨setCells_blk V2 (by simp [mc_len kz, mc_len ky]), free_blk V2 (by simp [mc_len kz]), ?_⟩
  have T2 : Step [] g (o ++ [b12]) (h24.put b12 (.cells (mc y1).toArray T.api_Moniker (0, 0))) := (TT.trans (by simpa using s.frame (o ++ [b12]))).trans (Step.put (.inl (by simp)))
  exact T2.weak (fun _ z => z) fun q hq => .inl (by simp at hq; simp [hq])
end
end Go.Den.Mon
end

section
set_option linter.unusedVariables false
set_option maxRecDepth 100000
namespace Go.Den.Mon
open Go Go.Den

noncomputable section

def law21_MonikerTexts.k0 (s1 : ByteArray) (s2 : ByteArray) (I0 : List Value → Hp → Prop) (b2 : Bool) (n2 : Int) (h4 : Hp) (x0 : List Value → Hp → Nat) (h3 : Hp) : Prop :=
 ((s1.size + s2.size) ≤ 9223372036854775807) ∧ (I0 [.bool b2, .string (⟨(Array.mk (Array.toList (ByteArray.data s1) ++ Array.toList (ByteArray.data s2)))⟩ : ByteArray), .int .i64 (IntKind.wrap .i64 (n2 + 1))] h4) ∧ (x0 [.bool b2, .string (⟨(Array.mk (Array.toList (ByteArray.data s1) ++ Array.toList (ByteArray.data s2)))⟩ : ByteArray), .int .i64 (IntKind.wrap .i64 (n2 + 1))] h4) < (x0 [.bool b2, .string s1, .int .i64 n2] h3)
def law21_MonikerTexts.k1 (n3 : Int) (K : Value → Hp → Prop) (h4 : Hp) (s1 : ByteArray) (s2 : ByteArray) (I0 : List Value → Hp → Prop) (b2 : Bool) (n2 : Int) (x0 : List Value → Hp → Nat) (h3 : Hp) : Prop :=
 bcase ((n3 != 0))
 (K (.bool Bool.false) h4)
 ((law21_MonikerTexts.k0 s1 s2 I0 b2 n2 h4 x0 h3))
def law21_MonikerTexts.k2 (n2 : Int) (n1 : Nat) (a0 : Option Addr) (h3 : Hp) (K : Value → Hp → Prop) (s1 : ByteArray) (I0 : List Value → Hp → Prop) (b2 : Bool) (x0 : List Value → Hp → Nat) : Prop :=
 ((0 : Int) ≤ n2) ∧ (n2 < (n1 : Int)) ∧ someD a0 (fun p0 => (∃ cs3 : Array Value, (CellsAt h3 (p0.add (n2.toNat * 20)) 20 cs3) ∧ HC P moniker_Print.n #[.agg cs3] h3 (fun v3 h4 => (∃ s2 : ByteArray, (∃ n3 : Int, (v3 = (.tuple #[.string s2, .int .i64 n3])) ∧ (law21_MonikerTexts.k1 n3 K h4 s1 s2 I0 b2 n2 x0 h3))))))
def law21_MonikerTexts.k3 (s1 : ByteArray) (s0 : ByteArray) (h3 : Hp) (K : Value → Hp → Prop) : Prop :=
 bcase (((ByteArray.toList s1) == (ByteArray.toList s0)))
 (HC P law21_awake.n #[] h3 (fun v4 h5 => (∃ b3 : Bool, (v4 = (.bool b3)) ∧ K (.bool b3) h5)))
 (K (.bool Bool.false) h3)
def law21_MonikerTexts.k4 (I0 : List Value → Hp → Prop) (h2 : Hp) (n1 : Nat) (a0 : Option Addr) (K : Value → Hp → Prop) (x0 : List Value → Hp → Nat) (s0 : ByteArray) : Prop :=
 (I0 [.bool Bool.false, .string (⟨#[]⟩ : ByteArray), .int .i64 0] h2) ∧ (∀ h3 : Hp, (∀ b2 : Bool, (∀ s1 : ByteArray, (∀ n2 : Int, (I0 [.bool b2, .string s1, .int .i64 n2] h3 → bcase (decide (n2 < (n1 : Int)))
 ((law21_MonikerTexts.k2 n2 n1 a0 h3 K s1 I0 b2 x0))
 ((law21_MonikerTexts.k3 s1 s0 h3 K)))))))
def law21_MonikerTexts.k5 (h0 : Hp) (b0 : Nat) (K : Value → Hp → Prop) (s0 : ByteArray) : Prop :=
 (∃ cs2 : Array Value, (CellsAt h0 ⟨b0, 0, none⟩ 20 cs2) ∧ HC P law21_parts.n #[.agg cs2, .int .i64 99] h0 (fun v2 h2 => (∃ a0 : Option Addr, (∃ n1 : Nat, (∃ c0 : Nat, (v2 = (.slice a0 n1 c0)) ∧ (∃ I0 : List Value → Hp → Prop, (∃ x0 : List Value → Hp → Nat, (law21_MonikerTexts.k4 I0 h2 n1 a0 K x0 s0))))))))
def law21_MonikerTexts.k6 (n0 : Int) (h0 : Hp) (K : Value → Hp → Prop) (b0 : Nat) (s0 : ByteArray) : Prop :=
 bcase ((n0 != 0))
 (HC P law21_awake.n #[] h0 (fun v1 h1 => (∃ b1 : Bool, (v1 = (.bool b1)) ∧ K (.bool b1) h1)))
 ((law21_MonikerTexts.k5 h0 b0 K s0))
def law21_MonikerTexts (cs0 : Array Value) (K : Value → Hp → Prop) (h : Hp) : Prop :=
 (∀ b0 : Nat, ((h b0) = none → (∃ cs1 : Array Value, (CellsAt (h.put b0 (.cells cs0 T.api_Moniker (0, 0))) ⟨b0, 0, none⟩ 20 cs1) ∧ HC P moniker_Print.n #[.agg cs1] (h.put b0 (.cells cs0 T.api_Moniker (0, 0))) (fun v0 h0 => (∃ s0 : ByteArray, (∃ n0 : Int, (v0 = (.tuple #[.string s0, .int .i64 n0])) ∧ (law21_MonikerTexts.k6 n0 h0 K b0 s0)))))))
theorem law21_MonikerTexts.hc {cs0 : Array Value} {K : Value → Hp → Prop} {h : Hp} (hh : law21_MonikerTexts cs0 K h) : HC P law21_MonikerTexts.n #[.agg cs0] h K :=
  HC_of_den (fn := Go.Proofs.Tryd.f6) (args := [.agg cs0]) Go.Proofs.Tryd.func6 rfl (Nat.le_of_ble_eq_true (by kernel_rfl)) (den_cast hh (by kernel_rfl))

end
end Go.Den.Mon
end

section
set_option linter.unusedVariables false
set_option maxRecDepth 100000
namespace Go.Den.Mon
open Go Go.Den
variable {h : Hp} {K : Value → Hp → Prop}
theorem MonikerTexts_holds (en : Env h) {x : Raw} {rows : List Raw} {m : Mon} (t : Top h x rows m) : HC P law21_MonikerTexts.n #[.agg (mc x).toArray] h (Holds h) := by
  refine law21_MonikerTexts.hc ?_
  unfold law21_MonikerTexts
  intro b0 hb0
  have w := Own.new en t hb0
  refine ⟨_, w.all, Print_spec w.E w.T (fun hr h0 s0 => ⟨_, _, rfl, ?_⟩) fun hr h0 s0 => ⟨_, _, rfl, ?_⟩⟩
  case refine_2 =>
    unfold law21_MonikerTexts.k6
    exact bcT rfl (w.step s0).aw
  have w0 := w.step s0
  have rps := parts_rp hr
  have pl := parts_len t hr
  have okp : ∀ r ∈ partsOf x rows, r.Ok := fun r hr' => prt_ok t r (by rw [prt_right hr]; exact hr')
  unfold law21_MonikerTexts.k6
  refine bcF rfl ?_
  unfold law21_MonikerTexts.k5
  refine ⟨_, w0.all, parts_spec (n0 := 99) w0.T (by omega) fun a1 c1 o h1 sl ok1 s1 => ⟨_, _, _, rfl, ?_⟩⟩
  have et : (prt x rows).take 99 = partsOf x rows := by rw [prt_right hr, List.take_of_length_le (by omega)]
  rw [et] at sl ok1 ⊢
  have w1 := w0.step s1.forget0
  generalize partsOf x rows = A at *
  have tl : ∀ i, (txtOf (A.take i)).length ≤ 40000 := fun i => by
    have := txtOf_len (l := A.take i) fun r hr => rps r (List.mem_of_mem_take hr)
    rw [List.length_take] at this
    omega
  obtain ⟨I0, hI0⟩ : ∃ I0 : List Value → Hp → Prop, I0 = fun vs h' => ∃ (j : Nat), vs = [.bool false, .string (str (txtOf (A.take j))), .int .i64 (j : Int)] ∧ j ≤ A.length ∧ Step [] h1 [] h' := ⟨_, rfl⟩
  obtain ⟨x0, hx0⟩ : ∃ x0 : List Value → Hp → Nat, x0 = fun vs _ => match vs with | [_, _, .int _ i] => A.length - i.toNat | _ => 0 := ⟨_, rfl⟩
  refine ⟨I0, x0, ?_⟩
  unfold law21_MonikerTexts.k4
  refine ⟨by rw [hI0]; exact ⟨0, rfl, by omega, Step.refl _ _⟩, ?_⟩
  intro h2 b2 sa n2 hin
  rw [hI0] at hin
  obtain ⟨j, he, hj, st⟩ := hin
  have e1' : b2 = false ∧ sa = str (txtOf (A.take j)) ∧ n2 = (j : Int) := by cases he; exact ⟨rfl, rfl, rfl⟩
  clear he
  obtain ⟨rfl, rfl, rfl⟩ := e1'
  have w2 := w1.step st
  refine bcase_intro (fun hc => ?_) fun hc => ?_
  · have hc : j < A.length := by have := of_decide_eq_true hc; omega
    obtain ⟨r, hrr⟩ : ∃ r, A[j]? = some r := ⟨_, List.getElem?_eq_getElem hc⟩
    have mr := List.mem_of_getElem? hrr
    obtain ⟨p, rfl, hp, cp⟩ := srcM sl.src ok1 rfl hrr
    have rp := rps r mr
    have lt := txt1_len rp
    have tj := tl j
    unfold law21_MonikerTexts.k2
    rw [someD_some, Int.toNat_natCast]
    refine ⟨by omega, by omega, _, cp h2 (st.keep _ hp (by simp)), Print_spec w2.E (leaf_top (okp r mr) rp) (fun _ h3 s3 => ⟨_, _, rfl, ?_⟩) fun z => by rw [(rr_part rp).1] at z; cases z⟩
    rw [(rr_part rp).2]
    unfold law21_MonikerTexts.k1
    refine bcF rfl ?_
    have ex : txtOf [r] = txt1 r := by simp [txtOf]
    have ec : (⟨(Array.mk (Array.toList (ByteArray.data (str (txtOf (A.take j)))) ++ Array.toList (ByteArray.data (⟨(txtOf [r]).toArray⟩ : ByteArray))))⟩ : ByteArray) = str (txtOf (A.take (j + 1))) := by
      rw [List.take_add_one, hrr]
      unfold str
      simp [txtOf]
    unfold law21_MonikerTexts.k0
    rw [ec, wrapN (m := j + 1) (by simp) (by omega)]
    refine ⟨?_, ?_, ?_⟩
    · rw [str_size, ex]
      show _ + (str (txt1 r)).size ≤ _
      rw [str_size]; omega
    · rw [hI0]
      exact ⟨j + 1, rfl, by omega, st.trans s3⟩
    · rw [hx0]
      show A.length - ((j + 1 : Nat) : Int).toNat < A.length - (j : Int).toNat
      omega
  · have hc : j = A.length := by have := of_decide_eq_false hc; omega
    rw [hc, List.take_length]
    unfold law21_MonikerTexts.k3
    refine bcT ?_ w2.aw
    show (ByteArray.toList (str (txtOf A)) == ByteArray.toList (str (txtOf A))) = true
    simp
end Go.Den.Mon
end

section
set_option linter.unusedVariables false
set_option maxRecDepth 100000
namespace Go.Den.Mon
open Go Go.Den
variable {h : Hp}
theorem MonikerTexts_said {x : Raw} {rows : List Raw} {m : Mon} (t : Top h x rows m) (c : x.sn ≤ x.sc) (ht : Env h) : HC P law21_MonikerTexts.n #[.agg (mc x).toArray] h (Holds h) := MonikerTexts_holds ht t
end Go.Den.Mon
end

