import Derived.Test.YtigpmmikmepcbaaGreatDoorDenR
import Derived.Lib.LaidCase
import Derived.LaidMore
import Derived.PinnedBridge
/- Texts that the claim needs, joined. -/
section
set_option linter.unusedVariables false
set_option maxRecDepth 100000
namespace Go.Den.Mon
open Go Go.Den Go.ChangeShapes Go.WideShapes Go.ChangeAt Go.RowKit
theorem slices_in2 {H : Type} {enc : TypeId × Value → H} {P : Program} {W : World} {spare : Nat → Bool} {held : Bool} {fuel : Nat} {t e : TypeId} {sz : Nat} {sa : Option Addr} {len cap : Nat} {x : DataW H × List MemPlace}
    (ht : P.underlying t = some (.slice e)) (hc : P.cellsOf e = sz) (hz : 0 < sz) (h : DataW.trod enc P W 0 spare held fuel t [.slice sa len cap] = some x) :
    ∃ (rows : List (List Value)) (n : Nat), n < fuel ∧ len ≤ cap ∧ rows.length = len ∧ len < 9223372036854775808 ∧ (∀ r ∈ rows, r.length = sz) ∧ SrcAt (hp W) sz (.slice sa len cap) len rows.flatten ∧
      ∀ (i : Nat) (r : List Value), rows[i]? = some r → ∃ y, DataW.trod enc P W 0 spare held n e r = some y := by
  have f0 : 0 < fuel := by
    cases fuel with
    | zero => simp [DataW.trod] at h
    | succ n => omega
  rcases DataW.trod_slice ht h with ⟨hcs, hx⟩ | ⟨a, len', cap', elems, rest, n, hfn, hcs, _, hb, hl, hm, hlen, hel, hsp, hns⟩
  · simp at hcs
    obtain ⟨rfl, rfl, rfl⟩ := hcs
    exact ⟨[], 0, f0, Nat.le_refl _, rfl, by omega, by simp, .none, fun i v hv => by simp at hv⟩
  · simp at hcs
    obtain ⟨rfl, rfl, rfl⟩ := hcs
    have hM : maxLen = 9223372036854775807 := by decide
    have each : ∀ i, i < len → ∃ r y, W.cells? 0 (a.add (i * sz)) sz = some r ∧ r.length = sz ∧ (∀ j v, r[j]? = some v → W.cell? ((a.add (i * sz)).add j) = some v) ∧ DataW.trod enc P W 0 spare held n e r = some y := by
      intro i hi
      have := hel i hi
      rw [hc, List.getElem?_eq_getElem (by omega), Option.bind_eq_some_iff] at this
      obtain ⟨cs', hcs, hy⟩ := this
      obtain ⟨-, hl1, hc1⟩ := World.cells?_some hcs
      refine ⟨cs', _, hcs, hl1, fun j v hv => ?_, hy⟩
      have hj := (List.getElem?_eq_some_iff.1 hv).1
      rw [hc1 j (by omega), hv]
    have hget : ∀ {i : Nat} {r : List Value}, ((List.range len).map fun i => (W.cells? 0 (a.add (i * sz)) sz).getD [])[i]? = some r → i < len ∧ ∃ y, W.cells? 0 (a.add (i * sz)) sz = some r ∧ r.length = sz ∧ (∀ j v, r[j]? = some v → W.cell? ((a.add (i * sz)).add j) = some v) ∧ DataW.trod enc P W 0 spare held n e r = some y := by
      intro i r hr
      rw [List.getElem?_map] at hr
      cases hj : (List.range len)[i]? with
      | none => rw [hj] at hr; cases hr
      | some j =>
        obtain ⟨hlt, hj2⟩ := List.getElem?_eq_some_iff.1 hj
        rw [List.getElem_range] at hj2
        subst hj2
        rw [hj] at hr
        have hlt' : i < len := by simpa using hlt
        obtain ⟨r', y, h1, h2, h3, h4⟩ := each i hlt'
        rw [Option.map_some, h1, Option.getD_some] at hr
        cases hr
        exact ⟨hlt', y, h1, h2, h3, h4⟩
    have hsz : ∀ r ∈ (List.range len).map fun i => (W.cells? 0 (a.add (i * sz)) sz).getD [], r.length = sz := by
      intro r hr
      obtain ⟨i, hi⟩ := List.mem_iff_getElem?.1 hr
      obtain ⟨-, y, -, h2, -⟩ := hget hi
      exact h2
    refine ⟨(List.range len).map fun i => (W.cells? 0 (a.add (i * sz)) sz).getD [], n, by omega, hl, by simp, by omega, hsz, .some ⟨by rw [List.size_toArray, flatten_len hsz]; simp, fun j v hv => ?_⟩, fun i r hr => ?_⟩
    · rw [List.getElem?_toArray] at hv
      have hj : j = (j / sz) * sz + j % sz := by have := Nat.div_add_mod j sz; rw [Nat.mul_comm] at this; exact this.symm
      rw [hj, flatten_get hsz (Nat.mod_lt _ hz), Option.bind_eq_some_iff] at hv
      obtain ⟨r, hr, hv⟩ := hv
      obtain ⟨-, y, h1, h2, h3, h4⟩ := hget hr
      have := h3 _ _ hv
      rw [addr_add_add, ← hj] at this
      rw [hp_cell?]; exact this
    · obtain ⟨-, y, h1, h2, h3, h4⟩ := hget hr
      exact ⟨y, h4⟩
theorem deeps {h : Hp} : ∀ {rows : List (List Value)}, (∀ r ∈ rows, ∃ (x : Raw) (m : Mon), r = mc x ∧ Deep h x m) → ∃ (xs : List Raw) (ms : List Mon), xs.length = rows.length ∧ rows.flatten = mcs xs ∧ (∀ x ∈ xs, x.Ok) ∧ ms.length = xs.length ∧
    ∀ (i : Nat) (r : Raw) (m : Mon), xs[i]? = some r → ms[i]? = some m → Deep h r m
  | [], _ => ⟨[], [], rfl, rfl, by simp, rfl, by simp⟩
  | r :: rows, hr => by
    obtain ⟨x, m, rfl, d⟩ := hr r (by simp)
    obtain ⟨xs, ms, h1, h2, h3, h4, h5⟩ := deeps (rows := rows) fun q hq => hr q (by simp [hq])
    refine ⟨x :: xs, m :: ms, by simp [h1], by simp [h2, mcs], fun y hy => ?_, by simp [h4], fun i q n hq hn => ?_⟩
    · rcases List.mem_cons.1 hy with rfl | hy
      · exact d.ok
      · exact h3 y hy
    · cases i with
      | zero => simp at hq hn; subst hq; subst hn; exact d
      | succ i => exact h5 i q n (by simpa using hq) (by simpa using hn)
theorem cut5 {cs : List Value} (hl : cs.length = 20) {a b c d e : List Value} (h0 : (cs.drop 0).take 1 = a) (h1 : (cs.drop 1).take 16 = b) (h2 : (cs.drop 17).take 1 = c) (h3 : (cs.drop 18).take 1 = d) (h4 : (cs.drop 19).take 1 = e) : cs = a ++ (b ++ (c ++ (d ++ e))) := by
  subst h0 h1 h2 h3 h4
  have q4 : (cs.drop 19).take 1 = cs.drop 19 := List.take_of_length_le (by rw [List.length_drop]; omega)
  have q3 : (cs.drop 18).take 1 ++ cs.drop 19 = cs.drop 18 := by
    have := List.take_append_drop 1 (cs.drop 18); rwa [List.drop_drop] at this
  have q2 : (cs.drop 17).take 1 ++ cs.drop 18 = cs.drop 17 := by
    have := List.take_append_drop 1 (cs.drop 17); rwa [List.drop_drop] at this
  have q1 : (cs.drop 1).take 16 ++ cs.drop 17 = cs.drop 1 := by
    have := List.take_append_drop 16 (cs.drop 1); rwa [List.drop_drop] at this
  rw [q4, q3, q2, q1, List.drop_zero, List.take_append_drop]
theorem deep_of {H : Type} {enc : TypeId × Value → H} {W : World} {spare : Nat → Bool} {held : Bool} (fuel : Nat) : ∀ {cs : List Value} {y : DataW H × List MemPlace}, DataW.trod enc P W 0 spare held fuel T.api_Moniker cs = some y →
    ∃ (x : Raw) (rows : List Raw) (m : Mon), cs = mc x ∧ Top (hp W) x rows m ∧ x.sn ≤ x.sc := by
  induction fuel using Nat.strongRecOn with
  | ind fuel ih =>
    intro cs y ht
    obtain ⟨xs, n, hn, -, hlen, hxs, hf⟩ := DataW.trod_struct Go.Proofs.Tryz.underlying39 ht
    have hlen : cs.length = 20 := by rw [hlen]; kernel_rfl
    have hxs : xs.length = 5 := hxs
    have f0 := hf 0 _ rfl
    have f1 := hf 1 _ rfl
    have f2 := hf 2 _ rfl
    have f3 := hf 3 _ rfl
    have f4 := hf 4 _ rfl
    rw [List.getElem?_eq_getElem (by omega)] at f0 f1 f2 f3 f4
    have c3 : P.cellsOf 3 = 1 := by kernel_rfl
    have c23 : P.cellsOf 35 = 16 := by kernel_rfl
    have c9 : P.cellsOf 9 = 1 := by kernel_rfl
    have c24 : P.cellsOf 36 = 1 := by kernel_rfl
    have c25 : P.cellsOf 37 = 1 := by kernel_rfl
    change DataW.trod enc P W 0 spare held n 3 ((cs.drop 0).take (P.cellsOf 3)) = _ at f0
    change DataW.trod enc P W 0 spare held n 35 ((cs.drop 1).take (P.cellsOf 35)) = _ at f1
    change DataW.trod enc P W 0 spare held n 9 ((cs.drop 17).take (P.cellsOf 9)) = _ at f2
    change DataW.trod enc P W 0 spare held n 36 ((cs.drop 18).take (P.cellsOf 36)) = _ at f3
    change DataW.trod enc P W 0 spare held n 37 ((cs.drop 19).take (P.cellsOf 37)) = _ at f4
    rw [c3] at f0; rw [c23] at f1; rw [c9] at f2; rw [c24] at f3; rw [c25] at f4
    obtain ⟨k, e0, -, w0⟩ := DataW.trod_int (k := .i64) (by kernel_rfl) f0
    obtain ⟨g, e1', g1, g2⟩ := bytes_of (flat_of 9 (ks := List.replicate 16 (.int .u8)) (by kernel_rfl) f1)
    obtain ⟨s, e2, -, w2⟩ := DataW.trod_string (by kernel_rfl) f2
    obtain ⟨u, e3, -, w3⟩ := DataW.trod_int (k := .u64) (by kernel_rfl) f3
    obtain ⟨u', rfl, hu⟩ := wf_u64 w3
    obtain ⟨sa, sn, sc, e4⟩ : ∃ sa sn sc, (cs.drop 19).take 1 = [.slice sa sn sc] := by
      rcases DataW.trod_slice Go.Proofs.Tryz.underlying37 f4 with ⟨q, -⟩ | ⟨a, l, c, -, -, -, -, q, -⟩
      · exact ⟨_, _, _, q⟩
      · exact ⟨_, _, _, q⟩
    rw [e4] at f4
    obtain ⟨rws, n', hn', hcap, h1, h2, h3, h4, h5⟩ := slices_in2 (sz := 20) Go.Proofs.Tryz.underlying37 (by kernel_rfl) (by omega) f4
    obtain ⟨rows, ms, r1, r2, r3, r4, r5⟩ := deeps (h := hp W) (rows := rws) fun r hr => by
      obtain ⟨i, hi⟩ := List.mem_iff_getElem?.1 hr
      obtain ⟨y', hy'⟩ := h5 i r hi
      obtain ⟨x, rows', m, e, t, -⟩ := ih n' (by omega) hy'
      exact ⟨x, m, e, t.deep⟩
    have ok : (⟨k, g, s, u', sa, sn, sc⟩ : Raw).Ok := ⟨⟨g1, g2⟩, hu, wf_i64 w0, by
      have : maxLen = 9223372036854775807 := rfl
      show s.size ≤ _; omega⟩
    rw [r2] at h4
    refine ⟨⟨k, g, s, u', sa, sn, sc⟩, rows, _, ?_, ⟨.mk (x := ⟨k, g, s, u', sa, sn, sc⟩) ok h2 (by rw [r1, h1]) h4 r3 r4 r5, h4, r3, by rw [r1, h1]⟩, hcap⟩
    rw [cut5 hlen e0 e1' e2 e3 e4]
    rfl
open Go.Den.Rot in
theorem act_of {H : Type} {enc : TypeId × Value → H} {W : World} {spare : Nat → Bool} {held : Bool} {fuel : Nat} {cs : List Value} {y : DataW H × List MemPlace} (ht : DataW.trod enc P W 0 spare held fuel T.tenonlaw22_Act cs = some y) :
    ∃ a : Rot.Act, cs = av a ∧ a.Ok (hp W) := by
  obtain ⟨xs, n, hn, -, hlen, hxs, hf⟩ := DataW.trod_struct Go.Proofs.Tryz.underlying41 ht
  have hlen : cs.length = 26 := by rw [hlen]; kernel_rfl
  have hxs : xs.length = 7 := hxs
  have f0 := hf 0 _ rfl
  have f1 := hf 1 _ rfl
  have f2 := hf 2 _ rfl
  have f3 := hf 3 _ rfl
  have f4 := hf 4 _ rfl
  have f5 := hf 5 _ rfl
  have f6 := hf 6 _ rfl
  rw [List.getElem?_eq_getElem (by omega)] at f0 f1 f2 f3 f4 f5 f6
  have c3 : P.cellsOf 3 = 1 := by kernel_rfl
  have c27 : P.cellsOf 39 = 20 := by kernel_rfl
  have c24 : P.cellsOf 36 = 1 := by kernel_rfl
  have c4 : P.cellsOf 4 = 1 := by kernel_rfl
  change DataW.trod enc P W 0 spare held n 3 ((cs.drop 0).take (P.cellsOf 3)) = _ at f0
  change DataW.trod enc P W 0 spare held n 3 ((cs.drop 1).take (P.cellsOf 3)) = _ at f1
  change DataW.trod enc P W 0 spare held n 3 ((cs.drop 2).take (P.cellsOf 3)) = _ at f2
  change DataW.trod enc P W 0 spare held n 39 ((cs.drop 3).take (P.cellsOf 39)) = _ at f3
  change DataW.trod enc P W 0 spare held n 36 ((cs.drop 23).take (P.cellsOf 36)) = _ at f4
  change DataW.trod enc P W 0 spare held n 36 ((cs.drop 24).take (P.cellsOf 36)) = _ at f5
  change DataW.trod enc P W 0 spare held n 4 ((cs.drop 25).take (P.cellsOf 4)) = _ at f6
  rw [c3] at f0 f1 f2; rw [c27] at f3; rw [c24] at f4 f5; rw [c4] at f6
  obtain ⟨k, e0, -, w0⟩ := DataW.trod_int (k := .i64) (by kernel_rfl) f0
  obtain ⟨hh, e1, -, w1⟩ := DataW.trod_int (k := .i64) (by kernel_rfl) f1
  obtain ⟨ow, e2, -, w2⟩ := DataW.trod_int (k := .i64) (by kernel_rfl) f2
  obtain ⟨x, rows, m, e3, t3, -⟩ := deep_of n f3
  obtain ⟨tg, e4, -, w4⟩ := DataW.trod_int (k := .u64) (by kernel_rfl) f4
  obtain ⟨rw', e5, -, w5⟩ := DataW.trod_int (k := .u64) (by kernel_rfl) f5
  obtain ⟨b, e6, -⟩ := DataW.trod_bool (by kernel_rfl) f6
  obtain ⟨tg, rfl, h4⟩ := wf_u64 w4
  obtain ⟨rw', rfl, h5⟩ := wf_u64 w5
  refine ⟨(⟨k, hh, ow, x, tg, rw', b⟩ : Rot.Act), ?_, ⟨⟨rows, m, t3⟩, h4, h5⟩⟩
  have kx := t3.deep.ok
  have q6 : (cs.drop 25).take 1 = cs.drop 25 := List.take_of_length_le (by rw [List.length_drop]; omega)
  have q5 : (cs.drop 24).take 1 ++ cs.drop 25 = cs.drop 24 := by
    have := List.take_append_drop 1 (cs.drop 24); rwa [List.drop_drop] at this
  have q4 : (cs.drop 23).take 1 ++ cs.drop 24 = cs.drop 23 := by
    have := List.take_append_drop 1 (cs.drop 23); rwa [List.drop_drop] at this
  have q3 : (cs.drop 3).take 20 ++ cs.drop 23 = cs.drop 3 := by
    have := List.take_append_drop 20 (cs.drop 3); rwa [List.drop_drop] at this
  have q2 : (cs.drop 2).take 1 ++ cs.drop 3 = cs.drop 2 := by
    have := List.take_append_drop 1 (cs.drop 2); rwa [List.drop_drop] at this
  have q1 : (cs.drop 1).take 1 ++ cs.drop 2 = cs.drop 1 := by
    have := List.take_append_drop 1 (cs.drop 1); rwa [List.drop_drop] at this
  have q0 : (cs.drop 0).take 1 ++ cs.drop 1 = cs := by
    have := List.take_append_drop 1 (cs.drop 0); rwa [List.drop_drop] at this
  rw [← q0, ← q1, ← q2, ← q3, ← q4, ← q5, ← q6, e0, e1, e2, e3, e4, e5, e6]
  rfl
open Go.Den.Rot in
theorem acts_of {W : World} : ∀ {rows : List (List Value)}, (∀ r ∈ rows, ∃ a : Rot.Act, r = av a ∧ a.Ok (hp W)) → ∃ l : List Rot.Act, l.length = rows.length ∧ rows.flatten = acell l ∧ ∀ a ∈ l, a.Ok (hp W)
  | [], _ => ⟨[], rfl, rfl, by simp⟩
  | r :: rows, hr => by
    obtain ⟨a, rfl, k⟩ := hr r (by simp)
    obtain ⟨l, h1, h2, h3⟩ := acts_of (rows := rows) fun q hq => hr q (by simp [hq])
    refine ⟨a :: l, by simp [h1], by simp [h2, acell], fun y hy => ?_⟩
    rcases List.mem_cons.1 hy with rfl | hy
    · exact k
    · exact h3 y hy
open Go.Den.Rot in
def ActsGiven (h : Hp) (sa : Option Addr) (len cap : Nat) : Prop := ∃ l : List Rot.Act, l.length = len ∧ len < 9223372036854775808 ∧ SrcAt h 26 (.slice sa len cap) len (acell l) ∧ ∀ a ∈ l, a.Ok h
theorem acts_in {H : Type} {enc : TypeId × Value → H} {W : World} {spare : Nat → Bool} {held : Bool} {sa : Option Addr} {len cap : Nat} {d : DataW H} {p : List MemPlace}
    (h : DataW.Trod enc P W 0 spare held T.sl_tenonlaw22_Act (.slice sa len cap) d p) : ActsGiven (hp W) sa len cap := by
  obtain ⟨fuel, hf⟩ := h
  obtain ⟨rws, n', hn', hcap, h1, h2, h3, h4, h5⟩ := slices_in2 (sz := 26) Go.Proofs.Tryz.underlying22 (by kernel_rfl) (by omega) hf
  obtain ⟨l, l1, l2, l3⟩ := acts_of (W := W) (rows := rws) fun r hr => by
    obtain ⟨i, hi⟩ := List.mem_iff_getElem?.1 hr
    obtain ⟨y, hy⟩ := h5 i r hi
    exact act_of hy
  rw [l2] at h4
  exact ⟨l, by rw [l1, h1], h2, h4, l3⟩
open Go.Proofs Go.Lib in
theorem iface_cells {H : Type} {enc : TypeId × Value → H} {w : World} {base : Nat} {spare : Nat → Bool} {held : Bool} {fuel : Nat} {t : TypeId} {cs : List Value} {x : DataW H × List MemPlace} {ms : Array (String × TypeId)} (hi : P.underlying t = some (.interface ms))
    (h : DataW.trod enc P w base spare held fuel t cs = some x) : cs = [.nilIface] ∨ ∃ u v, cs = [.iface u v] := by
  cases fuel with
  | zero => simp [DataW.trod] at h
  | succ n =>
    unfold DataW.trod at h
    rw [hi] at h
    split at h <;> simp_all
def deb : List Int := [0, 1, 56, 2, 57, 49, 28, 3, 61, 58, 42, 50, 38, 29, 17, 4, 62, 47, 59, 36, 45, 43, 51, 22, 53, 39, 33, 30, 24, 18, 12, 5, 63, 55, 48, 27, 60, 41, 37, 16, 46, 35, 44, 21, 52, 32, 23, 11, 54, 26, 40, 15, 34, 20, 31, 10, 25, 14, 19, 9, 13, 8, 7, 6]
open Go.Proofs Go.Lib in
theorem env_reads {W : World} (r1 : VarReads P W "unicode/utf8.acceptRanges" Lib.acceptData) (r2 : VarReads P W "unicode.CaseRanges" Pinned.caseRanges) (r3 : VarReads P W "unicode/utf8.first" Pinned.utf8First)
    (r4 : VarReads P W "math/bits.deBruijn64tab" (tabData .u8 deb)) {F : DataW Unit} (r5 : VarReads P W "strconv.ErrSyntax" F) : Env (hp W) := by
  rw [Pinned.caseRanges_eq] at r2
  rw [Pinned.utf8First_eq] at r3
  have c := caseVar_of_reads (ρ := Tryz.lays159_ren) { Tryz.lays159 with } Tryz.lays159.t206 ⟨by kernel_rfl, by kernel_rfl, by kernel_rfl, by kernel_rfl, by kernel_rfl, by kernel_rfl⟩ r2
  have u := utf8Tabs_of_reads (ρ := Tryz.lays159_ren) { Tryz.lays159 with } ⟨by kernel_rfl, by kernel_rfl, by kernel_rfl, by kernel_rfl, by kernel_rfl, by kernel_rfl, by kernel_rfl⟩ r3 r1
  refine ⟨⟨W, c, u, Step.refl _ _⟩, ?_, ?_⟩
  · obtain ⟨g, t, cs, fuel, p, hg, hty, hvar, hd⟩ := r4
    obtain rfl := Option.some.inj ((show P.globalNamed "math/bits.deBruijn64tab" = some 8 by kernel_rfl).symm.trans hg)
    obtain rfl := Option.some.inj ((show (P.globals[8]?).map (·.type) = some 214 by kernel_rfl).symm.trans hty)
    have hcs := cells_of_tab (P := P) (n := 64) (e := 5) Go.Proofs.Tryz.underlying214 Go.Proofs.Tryz.underlying5 (by kernel_rfl) (by kernel_rfl) hd
    rw [hp_cell?, World.var?_cell hg hvar 15, ← Array.getElem?_toList, hcs]
    rfl
  · obtain ⟨g, t, cs, fuel, p, hg, hty, hvar, hd⟩ := r5
    obtain rfl := Option.some.inj ((show P.globalNamed "strconv.ErrSyntax" = some 1 by kernel_rfl).symm.trans hg)
    obtain rfl := Option.some.inj ((show (P.globals[1]?).map (·.type) = some 125 by kernel_rfl).symm.trans hty)
    have q := World.var?_cell hg hvar 0
    rw [← Array.getElem?_toList] at q
    rcases iface_cells Go.Proofs.Tryz.underlying125 hd with e | ⟨u, v, e⟩
    · rw [e] at q
      exact ⟨_, by rw [hp_cell?]; exact q, .inl rfl⟩
    · rw [e] at q
      exact ⟨_, by rw [hp_cell?]; exact q, .inr ⟨_, _, rfl⟩⟩
open Go.Proofs Go.Lib in
theorem env_of {W : World} {A B C D E F : DataW Unit} (hB : B = tabData .u8 deb) (hD : D = Lib.acceptData) (hn : ([("math/bits.deBruijn32tab", A), ("math/bits.deBruijn64tab", B), ("internal/strconv.uint64pow10", C), ("unicode/utf8.acceptRanges", D), ("strconv.ErrRange", E), ("strconv.ErrSyntax", F), ("unicode.CaseRanges", Pinned.caseRanges), ("unicode/utf8.first", Pinned.utf8First)].all fun x => x.2.handleName?.isNone) = true)
    (h : laidMetH P [("math/bits.deBruijn32tab", A), ("math/bits.deBruijn64tab", B), ("internal/strconv.uint64pow10", C), ("unicode/utf8.acceptRanges", D), ("strconv.ErrRange", E), ("strconv.ErrSyntax", F), ("unicode.CaseRanges", Pinned.caseRanges), ("unicode/utf8.first", Pinned.utf8First)] W) : Env (hp W) := by
  subst hB hD
  rw [MakeChecks.laidMetH_plain _ _ _ hn] at h
  exact env_reads (Lib.laidMet.reads h (n := "unicode/utf8.acceptRanges") (.tail _ (.tail _ (.tail _ (.head _))))) (Lib.laidMet.reads h (n := "unicode.CaseRanges") (.tail _ (.tail _ (.tail _ (.tail _ (.tail _ (.tail _ (.head _)))))))) (Lib.laidMet.reads h (n := "unicode/utf8.first") (.tail _ (.tail _ (.tail _ (.tail _ (.tail _ (.tail _ (.tail _ (.head _)))))))))
    (Lib.laidMet.reads h (n := "math/bits.deBruijn64tab") (.tail _ (.head _))) (Lib.laidMet.reads h (n := "strconv.ErrSyntax") (.tail _ (.tail _ (.tail _ (.tail _ (.tail _ (.head _)))))))
end Go.Den.Mon
end

section
set_option linter.unusedVariables false
set_option maxRecDepth 100000
namespace Go.Den.Mon
open Go Go.Den
variable {h : Hp}
theorem RotTells_said {n0 : Int} {sa : Option Addr} {n cap : Nat} (ha : ActsGiven h sa n cap) (hn : (Go.Lit.int .i64 n0).wf = true) (ht : Env h) :
    HC P law22_RotTells.n #[.slice sa n cap, .int .i64 n0] h (Holds h) := by
  obtain ⟨l, h1, -, h3, h5⟩ := ha
  exact Go.Den.Rot.RotTells_holds ht h3 h1 h5
end Go.Den.Mon
end

