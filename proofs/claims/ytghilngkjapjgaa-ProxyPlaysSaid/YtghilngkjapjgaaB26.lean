import Derived.Test.YtghilngkjapjgaaDenR
import Derived.KernelRfl
import Derived.Shelf.Strconv.Itoa0
import Derived.Sort.LotD5
/- Texts that the claim needs, joined. -/
section
set_option linter.unusedVariables false
set_option maxRecDepth 100000
namespace Go.Den.Proxy
open Go Go.Den
variable {h h' : Hp} {c c' : Col} {K : Value → Hp → Prop} {b : Nat}

theorem app_get {α : Type} {l m : List α} {n j : Nat} (h : l.length = n) : (l ++ m)[n + j]? = m[j]? := by
  rw [List.getElem?_append_right (by omega), h, Nat.add_sub_cancel_left]
theorem cellsAt_pre {T : TypeId} {pre vs post : List Value} {off n : Nat} (hb : h b = some (.cells (pre ++ (vs ++ post)).toArray T (0, 0))) (hp : pre.length = off) (hn : vs.length = n) : CellsAt h ⟨b, off, none⟩ n vs.toArray := by
  refine ⟨by simpa using hn, fun j v hv => ?_⟩
  rw [List.getElem?_toArray] at hv
  have hj := (List.getElem?_eq_some_iff.1 hv).1
  rw [Addr.add_mk, cell_of hb, List.getElem?_toArray, app_get hp, List.getElem?_append_left hj, hv]
/-! ### Objrefs -/
def zg : List Nat := List.replicate 16 0
def ob (fl re ox oid : Nat) (ip ii : List Nat) : List Value := .int .u32 (fl : Int) :: .int .u32 (re : Int) :: .int .u64 (ox : Int) :: .int .u64 (oid : Int) :: (gvs ip ++ gvs ii)
theorem zg_is : isG zg := ⟨by simp [zg], by simp [zg]⟩
theorem ob_len {fl re ox oid : Nat} {ip ii : List Nat} (h1 : isG ip) (h2 : isG ii) : (ob fl re ox oid ip ii).length = 36 := by simp [ob, gvs_len, h1.1, h2.1]
theorem ob_cellish {fl re ox oid : Nat} {ip ii : List Nat} : ∀ v ∈ ob fl re ox oid ip ii, cellish v = true := by
  intro v hv
  simp only [ob, List.mem_cons, List.mem_append] at hv
  rcases hv with rfl | rfl | rfl | rfl | hv | hv
  · rfl
  · rfl
  · rfl
  · rfl
  · exact gvs_cellish v hv
  · exact gvs_cellish v hv
def right (fl re : Nat) : Prop := fl ≤ 2 ∧ (fl = 0 ↔ 0 < re)
theorem Check_spec {fl re ox oid : Nat} {ip ii : List Nat} (h0 : ¬ right fl re → ∀ h', Step [] h [] h' → K (.int .i64 5) h') (h1 : right fl re → ∀ h', Step [] h [] h' → K (.int .i64 0) h') :
    HC P objref_Check.n #[.agg (ob fl re ox oid ip ii).toArray] h K := by
  refine objref_Check.hc ?_
  unfold objref_Check
  intro b0 hb0
  have p0 : (h.put b0 (.cells (ob fl re ox oid ip ii).toArray T.api_Objref (0, 0))) b0 = some (.cells (ob fl re ox oid ip ii).toArray T.api_Objref (0, 0)) := put_self
  have s0 : Step [] h [] (h.put b0 (.cells (ob fl re ox oid ip ii).toArray T.api_Objref (0, 0))) := Step.put (.inr hb0)
  simp only [Addr.add_mk, Nat.zero_add]
  refine ⟨_, by rw [cell_of p0]; rfl, bcase_intro (fun hc => ?_) fun hc => ?_⟩
  · have := of_decide_eq_true hc
    exact h0 (fun r => by have := r.1; omega) _ s0
  have hc := of_decide_eq_false hc
  unfold objref_Check.k2
  simp only [Addr.add_mk, Nat.zero_add]
  refine ⟨_, by rw [cell_of p0]; rfl, _, by rw [cell_of p0]; rfl, bcase_intro (fun hd => ?_) fun hd => ?_⟩
  · refine h0 (fun r => ?_) _ s0
    have := r.2
    have e : ((fl : Int) == 0) = decide ((0 : Int) < (re : Int)) := by
      rw [Bool.eq_iff_iff, decide_eq_true_iff, beq_iff_eq]; omega
    rw [e] at hd; simp at hd
  · refine h1 ⟨by omega, ?_⟩ _ s0
    have e : ((fl : Int) == 0) = decide ((0 : Int) < (re : Int)) := by simpa using hd
    rw [Bool.eq_iff_iff, decide_eq_true_iff, beq_iff_eq] at e
    omega
theorem ob_new {fl re ox oid : Nat} {ip ii : List Nat} (h1 : isG ip) (h2 : isG ii) : (h.put b (.cells zObjref T.api_Objref (0, 0))).setCells ⟨b, 0, none⟩ (ob fl re ox oid ip ii).toArray = h.put b (.cells (ob fl re ox oid ip ii).toArray T.api_Objref (0, 0)) := by
  rw [setCells_blk put_self (by show (36 : Nat) = _; rw [List.size_toArray, ob_len h1 h2]), put_put]
theorem ob_free : Free (h.put b (.cells zObjref T.api_Objref (0, 0))) ⟨b, 0, none⟩ 36 := free_blk put_self rfl
theorem guid_new {g : List Nat} (h1 : isG g) : (h.put b (.cells zGuid T.api_Guid (0, 0))).setCells ⟨b, 0, none⟩ (gcs g) = h.put b (.cells (gcs g) T.api_Guid (0, 0)) := by
  rw [setCells_blk put_self (by show (16 : Nat) = _; rw [gcs_size, h1.1]), put_put]
theorem guid_free : Free (h.put b (.cells zGuid T.api_Guid (0, 0))) ⟨b, 0, none⟩ 16 := free_blk put_self rfl
theorem kinds_objref : kindsOf P 8 T.api_Objref = some ([.u32, .u32, .u64, .u64] ++ List.replicate 32 .u8) := by kernel_rfl
theorem intCells_ob {fl re ox oid : Nat} {ip ii : List Nat} (h1 : isG ip) (h2 : isG ii) : IntCells P T.api_Objref (ob fl re ox oid ip ii).toArray := by
  refine ⟨_, kinds_objref, ⟨_, rfl⟩, ⟨_, rfl⟩, ⟨_, rfl⟩, ⟨_, rfl⟩, ?_⟩
  have := kindsAt_gvs (g := ip ++ ii) (n := 32) (by rw [List.length_append, h1.1, h2.1])
  simpa [gvs] using this
theorem aggEq_self {xs : Array Value} : aggEq xs xs = true := aggEq_true.2 rfl
end Go.Den.Proxy
end

section
set_option linter.unusedVariables false
set_option maxRecDepth 100000
namespace Go.Den.Proxy
open Go Go.Den
variable {h h' : Hp} {c c' : Col} {K : Value → Hp → Prop} {b : Nat}

structure Obr where
  fl : Nat
  re : Nat
  ox : Nat
  oid : Nat
  ip : List Nat
  ii : List Nat
structure Obr.Ok (o : Obr) : Prop where
  fl : o.fl < 4294967296
  re : o.re < 4294967296
  ox : o.ox < 18446744073709551616
  oid : o.oid < 18446744073709551616
  ip : isG o.ip
  ii : isG o.ii
def oc (o : Obr) : List Value := ob o.fl o.re o.ox o.oid o.ip o.ii
theorem oc_len {o : Obr} (k : o.Ok) : (oc o).length = 36 := ob_len k.ip k.ii
theorem oc_cellish {o : Obr} : ∀ v ∈ oc o, cellish v = true := ob_cellish
def ocs (l : List Obr) : List Value := l.flatMap oc
theorem fm_partQ {α : Type} {f : α → List Value} {sz : Nat} : ∀ {L : List α} {i : Nat} {a : α}, (∀ a ∈ L, (f a).length = sz) → L[i]? = some a → ((L.flatMap f).drop (i * sz)).take sz = f a
  | [], i, a, _, h => by simp at h
  | y :: L, 0, a, hf, h => by
    cases h
    have := hf y (by simp)
    rw [Nat.zero_mul, List.drop_zero, List.flatMap_cons, ← this, List.take_left]
  | y :: L, i + 1, a, hf, h => by
    have hy := hf y (by simp)
    rw [List.flatMap_cons, show (i + 1) * sz = (f y).length + i * sz by rw [hy, Nat.add_mul]; omega, ← List.drop_drop, List.drop_left]
    exact fm_partQ (fun x hx => hf x (by simp [hx])) (by simpa using h)


/-- An element of a row of objrefs. -/
theorem oc_at {a : Option Addr} {cap : Nat} {l : List Obr} (s : SrcAt h 36 (.slice a l.length cap) l.length (ocs l)) (ok : ∀ o ∈ l, o.Ok) {j : Nat} {o : Obr} (hj : l[j]? = some o) : ∃ p, a = some p ∧ CellsAt h (p.add (j * 36)) 36 (oc o).toArray := by
  obtain ⟨p, e, hp⟩ := s.part (List.getElem?_eq_some_iff.1 hj).1
  unfold ocs at hp
  rw [fm_partQ (fun o ho => oc_len (ok o ho)) hj] at hp
  exact ⟨p, e, hp⟩
theorem add_add {p : Addr} {i j : Nat} : (p.add i).add j = p.add (i + j) := by
  obtain ⟨b, o, s⟩ := p
  unfold Addr.add
  by_cases hi : i = 0 <;> by_cases hj : j = 0 <;> simp_all [Nat.add_assoc]
theorem cs_mid {p : Addr} {pre vs post : List Value} {n off m : Nat} (s : CellsAt h p n (pre ++ (vs ++ post)).toArray) (hp : pre.length = off) (hm : vs.length = m) : CellsAt h (p.add off) m vs.toArray := by
  refine ⟨by simpa using hm, fun j v hv => ?_⟩
  rw [add_add]
  have hv' : vs[j]? = some v := by simpa using hv
  have hj := (List.getElem?_eq_some_iff.1 hv').1
  refine s.2 (off + j) v ?_
  rw [List.getElem?_toArray, app_get hp, List.getElem?_append_left hj]; exact hv'
theorem oc_ip {p : Addr} {o : Obr} (k : o.Ok) (s : CellsAt h p 36 (oc o).toArray) : CellsAt h (p.add 4) 16 (gcs o.ip) :=
  cs_mid (pre := [.int .u32 (o.fl : Int), .int .u32 (o.re : Int), .int .u64 (o.ox : Int), .int .u64 (o.oid : Int)]) (vs := gvs o.ip) (post := gvs o.ii) (n := 36) (by simpa [oc, ob] using s) rfl (by rw [gvs_len, k.ip.1])
theorem oc_ii {p : Addr} {o : Obr} (k : o.Ok) (s : CellsAt h p 36 (oc o).toArray) : CellsAt h (p.add 20) 16 (gcs o.ii) :=
  cs_mid (pre := [.int .u32 (o.fl : Int), .int .u32 (o.re : Int), .int .u64 (o.ox : Int), .int .u64 (o.oid : Int)] ++ gvs o.ip) (vs := gvs o.ii) (post := []) (n := 36) (by simpa [oc, ob] using s) (by simp [gvs_len, k.ip.1]) (by rw [gvs_len, k.ii.1])
theorem oc_blk {o : Obr} (k : o.Ok) (hb : h b = some (.cells (oc o).toArray T.api_Objref (0, 0))) : CellsAt h ⟨b, 0, none⟩ 36 (oc o).toArray := cellsAt_blk hb (by rw [List.size_toArray, oc_len k])

theorem place1_spec {o : Obr} {iid : List Nat} {bg : Nat} (k : o.Ok) (hg : isG iid) (hb : h bg = some (.cells (gcs iid) T.api_Guid (0, 0))) (hk : ∀ h', Step [] h [] h' → K (.bool (decide (o.ii = iid))) h') :
    HC P proxy_proxy_place_1.n #[.agg (oc o).toArray, .pointer (some ⟨bg, 0, none⟩)] h K := by
  refine proxy_proxy_place_1.hc ?_
  unfold proxy_proxy_place_1
  intro b0 hb0
  have st : Step [] h [] (h.put b0 (.cells (oc o).toArray T.api_Objref (0, 0))) := Step.put (.inr hb0)
  simp only [someD_some]
  refine ⟨_, oc_ii k (oc_blk k put_self), _, cellsAt_blk (st.keepB0 hb) (by rw [gcs_size, hg.1]), intCells_guid k.ii.1, intCells_guid hg.1, ?_⟩
  rw [aggEq_gcs]
  exact hk _ st
theorem call_place1 : callable P proxy_proxy_place_1.n = true := by kernel_rfl

structure Prx where
  ox : Nat
  oid : Nat
  cnt : Nat
  cut : Bool
  has : List Obr
def pxc (x : Prx) (a : Option Addr) (cap : Nat) : List Value := [.int .u64 (x.ox : Int), .int .u64 (x.oid : Int), .int .u32 (x.cnt : Int), .bool x.cut, .slice a x.has.length cap]
structure PxB (h : Hp) (b : Nat) (x : Prx) (a : Option Addr) (cap : Nat) : Prop where
  blk : h b = some (.cells (pxc x a cap).toArray T.proxy_proxy (0, 0))
  src : SrcAt h 36 (.slice a x.has.length cap) x.has.length (ocs x.has)
  ok : ∀ o ∈ x.has, o.Ok
  len : x.has.length < 1000000
theorem PxB.step {x : Prx} {a : Option Addr} {cap : Nat} (t : PxB h b x a cap) (s : Step [] h [] h') : PxB h' b x a cap := ⟨s.keepB0 t.blk, t.src.sub s.sub0, t.ok, t.len⟩

def noIid (l : List Obr) (iid : List Nat) : Prop := ∀ o ∈ l, o.ii ≠ iid
def atIid (l : List Obr) (iid : List Nat) (j : Nat) (o : Obr) : Prop := l[j]? = some o ∧ o.ii = iid ∧ ∀ k q, k < j → l[k]? = some q → q.ii ≠ iid
theorem place_spec {x : Prx} {a : Option Addr} {cap : Nat} {iid : List Nat} (t : PxB h b x a cap) (hg : isG iid) (h0 : noIid x.has iid → ∀ h', Step [] h [] h' → K (.int .i64 (-1)) h')
    (h1 : ∀ j o, atIid x.has iid j o → ∀ h', Step [] h [] h' → K (.int .i64 (j : Int)) h') : HC P proxy_proxy_place.n #[.pointer (some ⟨b, 0, none⟩), .agg (gcs iid)] h K := by
  refine proxy_proxy_place.hc ?_
  unfold proxy_proxy_place
  intro b0 hb0
  obtain ⟨H, hH⟩ : ∃ H, H = h.put b0 (.cells (gcs iid) T.api_Guid (0, 0)) := ⟨_, rfl⟩
  rw [← hH]
  have st : Step [] h [] H := by rw [hH]; exact Step.put (.inr hb0)
  have g0 : H b0 = some (.cells (gcs iid) T.api_Guid (0, 0)) := by rw [hH, put_self]
  have t1 := t.step st
  simp only [someD_some, Addr.add_mk, Nat.zero_add]
  refine ⟨_, _, _, by rw [cell_of t1.blk]; rfl, slices_IndexFunc_api_Objref_api_Objref.hc ?_⟩
  unfold slices_IndexFunc_api_Objref_api_Objref
  obtain ⟨I0, hI0⟩ : ∃ I0 : List Value → Hp → Prop, I0 = fun vs hh => ∃ (z : Int) (j : Nat), vs = [.int .i64 z, .int .i64 (j : Int)] ∧ j ≤ x.has.length ∧ Step [] H [] hh ∧ ∀ k q, k < j → x.has[k]? = some q → q.ii ≠ iid := ⟨_, rfl⟩
  obtain ⟨x0, hx0⟩ : ∃ x0 : List Value → Hp → Nat, x0 = fun vs _ => match vs with | [_, .int _ i] => x.has.length - i.toNat | _ => 0 := ⟨_, rfl⟩
  refine ⟨I0, x0, by rw [hI0]; exact ⟨0, 0, rfl, by omega, Step.refl _ _, fun k q hk => by omega⟩, ?_⟩
  intro hh z n1 hin
  rw [hI0] at hin
  obtain ⟨z', j, he, hj, sh, hno⟩ := hin
  cases he
  refine bcase_intro (fun hc => ?_) fun hc => ?_
  · have hc : j < x.has.length := by have := of_decide_eq_true hc; omega
    unfold slices_IndexFunc_api_Objref_api_Objref.k2
    obtain ⟨o, ho⟩ : ∃ o, x.has[j]? = some o := ⟨_, List.getElem?_eq_getElem hc⟩
    have t2 := t1.step sh
    obtain ⟨p, e, hp⟩ := oc_at t2.src t2.ok ho
    rw [e]
    simp only [someD_some, Int.toNat_natCast]
    have ok := t.ok o (List.mem_of_getElem? ho)
    refine ⟨by omega, by omega, _, hp, trueD_intro call_place1 ?_⟩
    show HC P proxy_proxy_place_1.n #[.agg (oc o).toArray, .pointer (some ⟨b0, 0, none⟩)] hh _
    refine place1_spec ok hg (sh.keepB0 g0) fun h2 s2 => ⟨_, rfl, ?_⟩
    have s12 := sh.trans s2
    unfold slices_IndexFunc_api_Objref_api_Objref.k1
    refine bcase_intro (fun hb => ?_) fun hb => ?_
    · have hb := of_decide_eq_true hb
      exact ⟨_, rfl, h1 j o ⟨ho, hb, hno⟩ h2 (st.trans s12)⟩
    · have hb := of_decide_eq_false hb
      unfold slices_IndexFunc_api_Objref_api_Objref.k0
      rw [wrap_id (n := (j : Int) + 1) (by omega) (by have := t.len; omega), hI0, hx0]
      refine ⟨⟨z, j + 1, by simp, by omega, s12, fun k q hk hq => ?_⟩, ?_⟩
      · by_cases e : k = j
        · subst e; rw [ho] at hq; cases hq; exact hb
        · exact hno k q (by omega) hq
      · show x.has.length - ((j : Int) + 1).toNat < x.has.length - (j : Int).toNat
        omega
  · have hc : ¬ j < x.has.length := by have := of_decide_eq_false hc; omega
    refine ⟨_, rfl, h0 (fun o ho => ?_) hh (st.trans sh)⟩
    obtain ⟨k, hk⟩ := List.mem_iff_getElem?.1 ho
    have := (List.getElem?_eq_some_iff.1 hk).1
    exact hno k o (by omega) hk
end Go.Den.Proxy
end

section
set_option linter.unusedVariables false
set_option maxRecDepth 100000
namespace Go.Den
variable {S Q : Rg → Prop} {h0 h h' : Hp} {c0 c : Col}
theorem Same.step {Q : Rg → Prop} {h h' : Hp} {c : Col} {o o' : List Nat} (s : Step o h o' h') (w : WF h c) (hz : ¬ Q z0) (ho : ∀ k ∈ o, ¬ Q (c k)) : Same Q h c h' c := fun k hk =>
  ⟨s.keep k (w k fun e => hz (by rw [← e]; exact hk)) fun hm => ho k hm hk, rfl⟩
theorem Chg.step {S : Rg → Prop} {h0 h h' : Hp} {c0 c : Col} {o o' : List Nat} (a : Chg S h0 c0 h c) (s : Step o h o' h') (ho : ∀ k ∈ o, S (c k)) : Chg S h0 c0 h' c :=
  ⟨fun k hk => s.dom k (a.dom k hk), fun k hk hs => by
    obtain ⟨e1, e2⟩ := a.keep k hk hs
    exact ⟨(s.keep k (a.dom k hk) fun hm => hs (by rw [← e2]; exact ho k hm)).trans e1, e2⟩, fun k hk => s.dom k (a.wf k hk)⟩
theorem Same.col {t : Nat} {r : Rg} (hq : ¬ Q (c t)) : Same Q h c h (c.set t r) := fun k hk =>
  ⟨rfl, Col.set_ne fun e => hq (by rw [← e]; exact hk)⟩
theorem Chg.col {t : Nat} {r : Rg} (a : Chg S h0 c0 h c) (ht : h0 t = none) (ht' : h t ≠ none) : Chg S h0 c0 h (c.set t r) :=
  ⟨a.dom, fun k hk hs => by
    obtain ⟨e1, e2⟩ := a.keep k hk hs
    exact ⟨e1, by rw [Col.set_ne fun e => hk (by rw [e]; exact ht)]; exact e2⟩, fun k hk => by
    by_cases e : k = t
    · rw [e]; exact ht'
    · rw [Col.set_ne e] at hk; exact a.wf k hk⟩
theorem WF.col {t : Nat} {r : Rg} (w : WF h c) (ht : h t ≠ none) : WF h (c.set t r) := fun k hk => by
  by_cases e : k = t
  · rw [e]; exact ht
  · rw [Col.set_ne e] at hk; exact w k hk
theorem WF.read {h h' : Hp} {c : Col} {o : List Nat} (w : WF h c) (s : Step [] h o h') : WF h' c := fun k hk => s.dom k (w k hk)
end Go.Den
namespace Go.Den.Proxy
open Go Go.Den
variable {h h' : Hp} {c c' : Col} {K : Value → Hp → Prop} {Pp most n : Nat} {sp : List Sp} {fr : List Nat} {L : Nat → Option Prx} {i b : Nat} {x : Prx}

/-- What belongs to the proxy at a place. -/
def pcR (i : Nat) : Rg → Prop := fun r => r = (2, 2 * i) ∨ r = (2, 2 * i + 1)
def prR : Rg → Prop := fun r => r.1 = 1 ∨ r.1 = 2 ∨ r.1 = 4
theorem pcR_pr {r : Rg} (hr : pcR i r) : prR r := by rcases hr with rfl | rfl <;> exact .inr (.inl rfl)
theorem pcR_ne {j : Nat} {r : Rg} (hr : pcR j r) (e : j ≠ i) : ¬ pcR i r := by
  rintro (h | h) <;> rcases hr with g | g <;> rw [g] at h <;> simp at h <;> omega
theorem pcR_z {r : Rg} (hr : pcR i r) : r ≠ z0 := by rintro rfl; rcases hr with h | h <;> simp at h
structure PxR (h : Hp) (c : Col) (i b : Nat) (x : Prx) (n : Nat) (a : Option Addr) (cap : Nat) : Prop where
  blk : h b = some (.cells (pxc x a cap).toArray T.proxy_proxy (0, 0))
  col : c b = (2, 2 * i)
  row : Sl h c (2, 2 * i + 1) T.api_Objref 36 a x.has.length cap (ocs x.has)
  ok : ∀ o ∈ x.has, o.Ok
  len : x.has.length ≤ n
  ox : x.ox < 18446744073709551616 ∧ x.oid < 18446744073709551616
  cnt : x.cnt < 4294967296
def PxAt (h : Hp) (c : Col) (i b : Nat) (x : Prx) (n : Nat) : Prop := ∃ a cap, PxR h c i b x n a cap
theorem PxAt.keep (t : PxAt h c i b x n) (s : Same (pcR i) h c h' c') : PxAt h' c' i b x n := by
  obtain ⟨a, cap, t⟩ := t
  obtain ⟨e1, e2⟩ := s b (by rw [t.col]; exact .inl rfl)
  exact ⟨a, cap, e1.trans t.blk, e2.trans t.col, t.row.keep fun k hk => s k (.inr hk), t.ok, t.len, t.ox, t.cnt⟩
theorem PxAt.up {m : Nat} (t : PxAt h c i b x n) (hm : n ≤ m) : PxAt h c i b x m := by
  obtain ⟨a, cap, t⟩ := t
  exact ⟨a, cap, t.blk, t.col, t.row, t.ok, by have := t.len; omega, t.ox, t.cnt⟩
theorem PxR.toB {a : Option Addr} {cap : Nat} (t : PxR h c i b x n a cap) (hn : n < 1000000) : PxB h b x a cap := ⟨t.blk, t.row.src, t.ok, by have := t.len; omega⟩

structure PStA (h : Hp) (c : Col) (Pp most : Nat) (sp : List Sp) (fr : List Nat) (L : Nat → Option Prx) (n A : Nat) : Prop where
  blk : h Pp = some (.cells #[.pointer (some ⟨A, 0, none⟩)] T.proxy_Proxies (0, 0))
  col : c Pp = (4, 0)
  ar : ArAt h c A most sp fr
  has : ∀ i s, sp[i]? = some s → s.t = true → ∃ b x, s.x = some ⟨b, 0, none⟩ ∧ L i = some x ∧ PxAt h c i b x n
  non : ∀ i s, sp[i]? = some s → s.t = false → L i = none
  out : ∀ i, sp.length ≤ i → L i = none
  cap : fr.length ≤ n
def PSt (h : Hp) (c : Col) (Pp most : Nat) (sp : List Sp) (fr : List Nat) (L : Nat → Option Prx) (n : Nat) : Prop := ∃ A, PStA h c Pp most sp fr L n A
theorem PStA.keep {A : Nat} (t : PStA h c Pp most sp fr L n A) (s : Same prR h c h' c') : PStA h' c' Pp most sp fr L n A := by
  obtain ⟨e1, e2⟩ := s Pp (by rw [t.col]; exact .inr (.inr rfl))
  refine ⟨e1.trans t.blk, e2.trans t.col, t.ar.keep (s.weak fun r e => .inl e), fun i y hy ht => ?_, t.non, t.out, t.cap⟩
  obtain ⟨b, x, g1, g2, g3⟩ := t.has i y hy ht
  exact ⟨b, x, g1, g2, g3.keep (s.weak fun r e => pcR_pr e)⟩
theorem PSt.keep (t : PSt h c Pp most sp fr L n) (s : Same prR h c h' c') : PSt h' c' Pp most sp fr L n := by
  obtain ⟨A, t⟩ := t; exact ⟨A, t.keep s⟩
theorem prR_z : ¬ prR z0 := by simp [prR]
theorem PStA.read {A : Nat} {o : List Nat} (t : PStA h c Pp most sp fr L n A) (w : WF h c) (s : Step [] h o h') : PStA h' c Pp most sp fr L n A := t.keep (Same.step s w prR_z (by simp))
theorem PSt.read {o : List Nat} (t : PSt h c Pp most sp fr L n) (w : WF h c) (s : Step [] h o h') : PSt h' c Pp most sp fr L n := by
  obtain ⟨A, t⟩ := t; exact ⟨A, t.read w s⟩
theorem PStA.g {A : Nat} (t : PStA h c Pp most sp fr L n A) : (∀ s ∈ sp, s.g < 4294967296) ∧ sp.length ≤ most ∧ most ≤ 65536 := by
  obtain ⟨sa, sc, fa, fc, cnt, a⟩ := t.ar
  exact ⟨a.g, a.len⟩
theorem PSt.bnd (t : PSt h c Pp most sp fr L n) : (∀ s ∈ sp, s.g < 4294967296) ∧ sp.length ≤ most ∧ most ≤ 65536 := by obtain ⟨A, t⟩ := t; exact t.g
def setL (L : Nat → Option Prx) (i : Nat) (x : Option Prx) : Nat → Option Prx := fun j => if j = i then x else L j
theorem setL_self {x : Option Prx} : setL L i x i = x := by simp [setL]
theorem setL_ne {x : Option Prx} {j : Nat} (h : j ≠ i) : setL L i x j = L j := by simp [setL, h]
theorem setL_setL {y z : Option Prx} : setL (setL L i y) i z = setL L i z := by
  funext j; unfold setL; split <;> rfl
theorem PStA.up {A m : Nat} (t : PStA h c Pp most sp fr L n A) (hm : n ≤ m) : PStA h c Pp most sp fr L m A :=
  ⟨t.blk, t.col, t.ar, fun i s hs ht => by obtain ⟨b, x, g1, g2, g3⟩ := t.has i s hs ht; exact ⟨b, x, g1, g2, g3.up hm⟩, t.non, t.out, by have := t.cap; omega⟩
theorem PSt.up {m : Nat} (t : PSt h c Pp most sp fr L n) (hm : n ≤ m) : PSt h c Pp most sp fr L m := by obtain ⟨A, t⟩ := t; exact ⟨A, t.up hm⟩
/-- One proxy changed. -/
theorem PStA.one {A m : Nat} {s : Sp} {x' : Prx} (t : PStA h c Pp most sp fr L n A) (w : WF h c) (hs : sp[i]? = some s) (ht : s.t = true) (hx : s.x = some ⟨b, 0, none⟩) (q : Chg (pcR i) h c h' c')
    (tb : PxAt h' c' i b x' m) (hm : n ≤ m) : PStA h' c' Pp most sp fr (setL L i (some x')) m A := by
  obtain ⟨e1, e2⟩ := q.same w (Q := fun r => r = (4, 0)) (fun r hr => by rw [hr]; exact ⟨by decide, by rintro (e | e) <;> simp at e⟩) Pp t.col
  have hi := (List.getElem?_eq_some_iff.1 hs).1
  refine ⟨e1.trans t.blk, e2.trans t.col, t.ar.keep (q.same w fun r hr => ⟨by rintro rfl; simp at hr, by rintro (rfl | rfl) <;> simp at hr⟩), fun j y hy hyt => ?_, fun j y hy hyt => ?_, fun j hj => ?_, by have := t.cap; omega⟩
  · by_cases e : j = i
    · subst e; rw [hs] at hy; cases hy; exact ⟨b, x', hx, setL_self, tb⟩
    · obtain ⟨b', y', g1, g2, g3⟩ := t.has j y hy hyt
      exact ⟨b', y', g1, by rw [setL_ne e]; exact g2, (g3.keep (q.same w fun r hr => ⟨pcR_z hr, pcR_ne hr e⟩)).up hm⟩
  · rw [setL_ne fun e => by subst e; rw [hs] at hy; cases hy; rw [ht] at hyt; cases hyt]
    exact t.non j y hy hyt
  · rw [setL_ne (by omega)]; exact t.out j hj
theorem PStA.num {A : Nat} {s : Sp} (t : PStA h c Pp most sp fr L n A) (hs : sp[i]? = some s) : hd i s.g < 18446744073709551616 := by
  have hgen := t.g
  have h1 := hgen.1 s (List.mem_of_getElem? hs)
  have h2 := (List.getElem?_eq_some_iff.1 hs).1
  unfold hd; omega

/-! ### A place taken, a place given up -/
def placed (sp : List Sp) (fr : List Nat) (x : Option Addr) (i g : Nat) (sp' : List Sp) (fr' : List Nat) : Prop :=
  (fr = [] ∧ i = sp.length ∧ g = 1 ∧ sp' = sp ++ [⟨x, 1, true⟩] ∧ fr' = []) ∨ (∃ s, fr = fr' ++ [i] ∧ sp[i]? = some s ∧ g = s.g ∧ sp' = sp.set i ⟨x, s.g, true⟩)
theorem placed.at {y : Option Addr} {g : Nat} {sp' : List Sp} {fr' : List Nat} (p : placed sp fr y i g sp' fr') : sp'[i]? = some ⟨y, g, true⟩ := by
  rcases p with ⟨h1, h2, h3, h4, h5⟩ | ⟨s, h1, h2, h3, h4⟩
  · rw [h4, h2, h3]; simp
  · rw [h4, h3, List.getElem?_set]; simp [(List.getElem?_eq_some_iff.1 h2).1]
theorem placed.ne {y : Option Addr} {g j : Nat} {sp' : List Sp} {fr' : List Nat} (p : placed sp fr y i g sp' fr') (hj : j ≠ i) : sp'[j]? = sp[j]? := by
  rcases p with ⟨h1, h2, h3, h4, h5⟩ | ⟨s, h1, h2, h3, h4⟩
  · rw [h4, List.getElem?_append]
    split
    · rfl
    · rw [List.getElem?_eq_none (by simp; omega), List.getElem?_eq_none (by omega)]
  · rw [h4, List.getElem?_set, if_neg (Ne.symm hj)]
theorem placed.len {y : Option Addr} {g : Nat} {sp' : List Sp} {fr' : List Nat} (p : placed sp fr y i g sp' fr') : sp.length ≤ sp'.length ∧ i < sp'.length ∧ fr'.length ≤ fr.length := by
  rcases p with ⟨h1, h2, h3, h4, h5⟩ | ⟨s, h1, h2, h3, h4⟩
  · rw [h4, h5]; simp; omega
  · have := (List.getElem?_eq_some_iff.1 h2).1
    rw [h4, h1]; simp; omega
theorem PStA.add {A m g : Nat} {sp' : List Sp} {fr' : List Nat} (t : PStA h c Pp most sp fr L n A) (p : placed sp fr (some ⟨b, 0, none⟩) i g sp' fr') (ar : ArAt h' c' A most sp' fr')
    (q : Same (fun r => r = (4, 0)) h c h' c') (q2 : ∀ j, j ≠ i → Same (pcR j) h c h' c') (tb : PxAt h' c' i b x m) (hm : n ≤ m) : PStA h' c' Pp most sp' fr' (setL L i (some x)) m A := by
  obtain ⟨e1, e2⟩ := q Pp t.col
  obtain ⟨l1, l2, l3⟩ := p.len
  refine ⟨e1.trans t.blk, e2.trans t.col, ar, fun j y hy hyt => ?_, fun j y hy hyt => ?_, fun j hj => ?_, by have := t.cap; omega⟩
  · by_cases e : j = i
    · subst e; rw [p.at] at hy; cases hy; exact ⟨b, x, rfl, setL_self, tb⟩
    · rw [p.ne e] at hy
      obtain ⟨b', y', g1, g2, g3⟩ := t.has j y hy hyt
      exact ⟨b', y', g1, by rw [setL_ne e]; exact g2, (g3.keep (q2 j e)).up hm⟩
  · have e : j ≠ i := fun e => by subst e; rw [p.at] at hy; cases hy; cases hyt
    rw [p.ne e] at hy
    rw [setL_ne e]; exact t.non j y hy hyt
  · rw [setL_ne (by omega)]; exact t.out j (by omega)
theorem freed_len {s : Sp} {i : Nat} : (freed s i).length ≤ 1 := by unfold freed; split <;> simp
theorem PStA.dropped {A : Nat} {s : Sp} (t : PStA h c Pp most sp fr L n A) (w : WF h c) (hs : sp[i]? = some s) (ar : ArAt h' c' A most (sp.set i (gone s)) (fr ++ freed s i)) (q : Chg (fun r => r.1 = 1) h c h' c') :
    PStA h' c' Pp most (sp.set i (gone s)) (fr ++ freed s i) (setL L i none) (n + 1) A := by
  obtain ⟨e1, e2⟩ := q.same w (Q := fun r => r = (4, 0)) (fun r hr => by rw [hr]; simp) Pp t.col
  have hi := (List.getElem?_eq_some_iff.1 hs).1
  have gf : (gone s).t = false := by unfold gone; split <;> rfl
  refine ⟨e1.trans t.blk, e2.trans t.col, ar, fun j y hy hyt => ?_, fun j y hy hyt => ?_, fun j hj => ?_, ?_⟩
  · have e : j ≠ i := fun e => by
      subst e; rw [List.getElem?_set, if_pos rfl, if_pos hi] at hy; cases hy; rw [gf] at hyt; cases hyt
    rw [List.getElem?_set, if_neg (Ne.symm e)] at hy
    obtain ⟨b', y', g1, g2, g3⟩ := t.has j y hy hyt
    exact ⟨b', y', g1, by rw [setL_ne e]; exact g2, (g3.keep (q.same w fun r hr => ⟨pcR_z hr, by rcases hr with rfl | rfl <;> simp⟩)).up (by omega)⟩
  · by_cases e : j = i
    · rw [e, setL_self]
    · rw [List.getElem?_set, if_neg (Ne.symm e)] at hy
      rw [setL_ne e]; exact t.non j y hy hyt
  · rw [List.length_set] at hj
    by_cases e : j = i
    · rw [e, setL_self]
    · rw [setL_ne e]; exact t.out j hj
  · have := t.cap; have := freed_len (s := s) (i := i); simp; omega

/-! ### Who is under a handle -/
theorem pfind_spec {z : Nat} (t : PSt h c Pp most sp fr L n) (hz : z < 18446744073709551616) (h0 : fnd sp z = none → K (.tuple #[.pointer none, .int .i64 2]) h)
    (h1 : ∀ i s b x, fnd sp z = some (i, s) → s.x = some ⟨b, 0, none⟩ → L i = some x → PxAt h c i b x n → K (.tuple #[.pointer (some ⟨b, 0, none⟩), .int .i64 0]) h) :
    HC P proxy_Proxies_find.n #[.pointer (some ⟨Pp, 0, none⟩), .int .u64 (z : Int)] h K := by
  obtain ⟨A, t⟩ := t
  refine proxy_Proxies_find.hc ?_
  unfold proxy_Proxies_find
  refine bcF rfl ?_
  unfold proxy_Proxies_find.k0
  simp only [someD_some, Addr.add_mk, Nat.zero_add]
  refine ⟨_, by rw [cell_of t.blk]; rfl, Get_spec t.ar hz (fun e => ⟨_, _, rfl, h0 e⟩) fun i s e => ⟨_, _, rfl, ?_⟩⟩
  obtain ⟨hs, ht, -⟩ := fnd_some e
  obtain ⟨b, x, g1, g2, g3⟩ := t.has i s hs ht
  rw [g1]
  exact h1 i s b x e g1 g2 g3
theorem pNew_spec {m : Int} (w : WF h c) (hm : 1 ≤ m ∧ m ≤ 65536) (hk : ∀ Pp h' c', PSt h' c' Pp m.toNat [] [] (fun _ => none) 0 → Chg prR h c h' c' → K (.tuple #[.pointer (some ⟨Pp, 0, none⟩), .int .i64 0]) h') :
    HC P proxy_New.n #[.int .i64 m] h K := by
  refine proxy_New.hc ?_
  unfold proxy_New
  refine New_spec w hm fun A h1 c1 a1 q1 => ⟨_, _, rfl, ?_⟩
  unfold proxy_New.k1
  refine bcF rfl ?_
  unfold proxy_New.k0
  intro b0 hb0
  have w1 := q1.wf
  have zb := w1.fresh hb0
  have sm : Same (fun r => r.1 = 1) h1 c1 (h1.put b0 (.cells #[.pointer (some ⟨A, 0, none⟩)] T.proxy_Proxies (0, 0))) (c1.set b0 (4, 0)) := (Same.put (by rw [zb]; simp)).trans (Same.col (by rw [zb]; simp))
  refine hk b0 _ (c1.set b0 (4, 0)) ⟨A, put_self, Col.set_self, a1.keep sm, by simp, by simp, by simp, by simp⟩ ((q1.weak fun r hr => .inl hr).trans ((Chg.refl w1).newC hb0))
end Go.Den.Proxy
end

section
set_option linter.unusedVariables false
set_option maxRecDepth 100000
namespace Go.Den.Proxy
open Go Go.Den
variable {h h' : Hp} {c c' : Col} {K : Value → Hp → Prop} {Pp most n : Nat} {sp : List Sp} {fr : List Nat} {L : Nat → Option Prx} {i b : Nat} {x : Prx}

theorem setCell_id {b : Nat} {v : Value} {T : TypeId} (hb : h b = some (.cells #[v] T (0, 0))) : h.setCell ⟨b, 0, none⟩ v = h := by
  funext k
  by_cases e : k = b
  · rw [e, setCell_blk hb, hb]; rfl
  · exact setCell_ne e
theorem eqn {a b : Nat} (h : ((a : Int) == (b : Int)) = true) : a = b := by
  have : (a : Int) = b := by simpa using h
  omega
theorem nen {a b : Nat} (h : ((a : Int) == (b : Int)) = false) : a ≠ b := by
  have : ¬ (a : Int) = b := by simpa using h
  omega
def isOf (x : Prx) (ox oid : Nat) : Prop := x.ox = ox ∧ x.oid = oid ∧ x.cut = false
theorem pFind_spec {ox oid : Nat} (t : PSt h c Pp most sp fr L n) (w : WF h c)
    (h0 : (∀ i s x, sp[i]? = some s → s.t = true → L i = some x → ¬ isOf x ox oid) → ∀ h', Step [] h [] h' → K (.tuple #[.int .u64 0, .bool false]) h')
    (h1 : ∀ i s b x, sp[i]? = some s → s.t = true → s.x = some ⟨b, 0, none⟩ → L i = some x → isOf x ox oid → ∀ h', Step [] h [] h' → K (.tuple #[.int .u64 (hd i s.g : Nat), .bool true]) h') :
    HC P proxy_Proxies_Find.n #[.pointer (some ⟨Pp, 0, none⟩), .int .u64 (ox : Int), .int .u64 (oid : Int)] h K := by
  obtain ⟨A, t⟩ := t
  refine proxy_Proxies_Find.hc ?_
  unfold proxy_Proxies_Find
  intro b0 hb0 b1 hb1
  refine bcF rfl ?_
  unfold proxy_Proxies_Find.k6
  intro b2 hb2 b3 hb3
  obtain ⟨n32, hb3⟩ := put_none hb3
  obtain ⟨n31, hb3⟩ := put_none hb3
  obtain ⟨n30, hb3⟩ := put_none hb3
  obtain ⟨n21, hb2⟩ := put_none hb2
  obtain ⟨n20, hb2⟩ := put_none hb2
  obtain ⟨n10, hb1⟩ := put_none hb1
  obtain ⟨H0, hH0⟩ : ∃ H0, H0 = (((h.put b0 (.cells #[.int .u64 (ox : Int)] T.uint64 (0, 0))).put b1 (.cells #[.int .u64 (oid : Int)] T.uint64 (0, 0))).put b2 (.cells #[.int .u64 0] T.uint64 (0, 0))).put b3 (.cells #[.bool false] T.bool (0, 0)) := ⟨_, rfl⟩
  have e0 : H0 b0 = some (.cells #[.int .u64 (ox : Int)] T.uint64 (0, 0)) := by rw [hH0, put_ne (Ne.symm n30), put_ne (Ne.symm n20), put_ne (Ne.symm n10), put_self]
  have e1 : H0 b1 = some (.cells #[.int .u64 (oid : Int)] T.uint64 (0, 0)) := by rw [hH0, put_ne (Ne.symm n31), put_ne (Ne.symm n21), put_self]
  have e2 : H0 b2 = some (.cells #[.int .u64 0] T.uint64 (0, 0)) := by rw [hH0, put_ne (Ne.symm n32), put_self]
  have e3 : H0 b3 = some (.cells #[.bool false] T.bool (0, 0)) := by rw [hH0, put_self]
  have st0 : Step [] h [] H0 := by rw [hH0]; exact (((Step.put (.inr hb0)).trans (Step.put (.inr (by rw [put_ne n10]; exact hb1)))).trans (Step.put (.inr (by rw [put_ne n21, put_ne n20]; exact hb2)))).trans (Step.put (.inr (by rw [put_ne n32, put_ne n31, put_ne n30]; exact hb3)))
  rw [← hH0]
  rw [setCell_id e2, setCell_id e3]
  have t1 := t.read w st0
  have hgen := t.g
  refine ⟨⟨_, by rw [cell_of e2]; rfl⟩, frozen_of e2, ⟨_, by rw [cell_of e3]; rfl⟩, frozen_of e3, ?_⟩
  simp only [someD_some, Addr.add_mk, Nat.zero_add]
  refine ⟨_, by rw [cell_of t1.blk]; rfl, arena_Arena_proxy_proxy_All.hc fun fb hfb => ⟨_, _, _, rfl, ?_⟩⟩
  unfold proxy_Proxies_Find.k5
  refine trueD_intro call_AAll_1 fun lb R hl hbody => ?_
  obtain ⟨nlf, hl⟩ := put_none hl
  obtain ⟨H1, hH1⟩ : ∃ H1, H1 = (H0.put fb (.cells #[.pointer (some ⟨A, 0, none⟩)] T.ptr_arena_Arena_ptr_proxy_proxy (0, 0))).put lb R.ready := ⟨_, rfl⟩
  have nfr : ∀ {k o}, H0 k = some o → k ≠ fb ∧ k ≠ lb := fun {k o} e => ⟨fun e' => (by rw [e', hfb] at e; cases e), fun e' => (by rw [e', hl] at e; cases e)⟩
  have st1 : Step [] h [] H1 := by rw [hH1]; exact (st0.trans (Step.put (.inr hfb))).trans (Step.put (.inr (by rw [put_ne nlf]; exact hl)))
  have lift : ∀ {k o}, H0 k = some o → H1 k = some o := fun {k o} e => by rw [hH1, put_ne (nfr e).2, put_ne (nfr e).1]; exact e
  have l1 : H1 lb = some R.ready := by rw [hH1, put_self]
  have f1 : H1 fb = some (.cells #[.pointer (some ⟨A, 0, none⟩)] T.ptr_arena_Arena_ptr_proxy_proxy (0, 0)) := by rw [hH1, put_ne (Ne.symm nlf), put_self]
  show HC P arena_Arena_proxy_proxy_All_1.n #[.func (.yield lb) #[] #[], .pointer (some ⟨fb, 0, none⟩)] _ _
  rw [← hH1]
  have t2 := t.read w st1
  have w2 := w.read st1
  have hlz : h lb = none := Classical.byContradiction fun hne => st0.dom lb hne hl
  have n2l : b2 ≠ lb := (nfr e2).2
  have n3l : b3 ≠ lb := (nfr e3).2
  have n0l : b0 ≠ lb := (nfr e0).2
  have n1l : b1 ≠ lb := (nfr e1).2
  refine AAll_scan (D := [lb, b2, b3]) (I := fun j h' => h' lb = some R.ready ∧ Step [] h [lb, b2, b3] h' ∧ h' b0 = some (.cells #[.int .u64 (ox : Int)] T.uint64 (0, 0)) ∧ h' b1 = some (.cells #[.int .u64 (oid : Int)] T.uint64 (0, 0)) ∧
      h' b2 = some (.cells #[.int .u64 0] T.uint64 (0, 0)) ∧ h' b3 = some (.cells #[.bool false] T.bool (0, 0)) ∧ (∀ j' i s x, j' < j → (live 0 sp)[j']? = some (i, s) → L i = some x → ¬ isOf x ox oid) ∧ ∀ k, H1 k ≠ none → h' k ≠ none)
    t2.ar w2 ?_ (by rw [cell_of f1]; rfl) ?_ ?_ ?_ ?_ ?_
  · intro k hk
    simp at hk
    rcases hk with rfl | rfl | rfl
    · exact ⟨w.fresh hlz, by rw [l1]; simp⟩
    · exact ⟨w.fresh hb2, by rw [lift e2]; simp⟩
    · exact ⟨w.fresh hb3, by rw [lift e3]; simp⟩
  · intro h' s
    refine ⟨s.keepB0 l1, (st1.trans s).weak (by simp) (fun k hk => ?_), s.keepB0 (lift e0), s.keepB0 (lift e1), s.keepB0 (lift e2), s.keepB0 (lift e3), by simp, s.dom⟩
    simp at hk
    rcases hk with rfl | rfl | rfl
    · exact .inr (.inr hlz)
    · exact .inr (.inr hb2)
    · exact .inr (.inr hb3)
  · rintro j h' ⟨-, -, -, -, -, -, -, i8⟩; exact i8
  · rintro j h' b o hb ⟨i1, i2, i3, i4, i5, i6, i7, i8⟩
    have ne : ∀ {k x}, h' k = some x → (h'.put b o) k = some x := fun {k x} e => by rw [put_ne (fun e' => by rw [e', hb] at e; cases e)]; exact e
    exact ⟨ne i1, i2.trans (Step.put (.inr hb)), ne i3, ne i4, ne i5, ne i6, i7, fun k hk => by unfold Hp.put; split <;> simp [i8 k hk]⟩
  · rintro j i s h' hj ⟨i1, i2, i3, i4, i5, i6, i7, i8⟩
    obtain ⟨-, hs, hst⟩ := live_mem.1 (List.mem_of_getElem? hj)
    rw [Nat.sub_zero] at hs
    have t3 := t.read w i2
    obtain ⟨b, x, g1, g2, ra, rc, g3⟩ := t3.has i s hs hst
    have nbl : b ≠ lb := fun e => by have := g3.col; rw [e, w.fresh hlz] at this; cases this
    obtain ⟨Ha, hHa⟩ : ∃ Ha, Ha = h'.put lb R.busy := ⟨_, rfl⟩
    have la : ∀ {k o}, k ≠ lb → h' k = some o → Ha k = some o := fun {k o} hne e => by rw [hHa, put_ne hne]; exact e
    have lla : Ha lb = some R.busy := by rw [hHa, put_self]
    have ba := la nbl g3.blk
    rw [g1]
    refine hbody _ _ _ _ i1 ⟨i1, ?_⟩
    rw [← hHa]
    simp only [someD_some, Addr.add_mk, Nat.zero_add]
    -- when it isn't the one
    have nx : ¬ isOf x ox oid → (Step [lb, b2, b3] h' [lb, b2, b3] (Ha.put lb R.ready)) ∧ (((Ha.put lb R.ready) lb = some R.ready ∧ Step [] h [lb, b2, b3] (Ha.put lb R.ready) ∧ (Ha.put lb R.ready) b0 = some (.cells #[.int .u64 (ox : Int)] T.uint64 (0, 0)) ∧ (Ha.put lb R.ready) b1 = some (.cells #[.int .u64 (oid : Int)] T.uint64 (0, 0)) ∧
        (Ha.put lb R.ready) b2 = some (.cells #[.int .u64 0] T.uint64 (0, 0)) ∧ (Ha.put lb R.ready) b3 = some (.cells #[.bool false] T.bool (0, 0)) ∧ (∀ j' i s x, j' < j + 1 → (live 0 sp)[j']? = some (i, s) → L i = some x → ¬ isOf x ox oid) ∧ ∀ k, H1 k ≠ none → (Ha.put lb R.ready) k ≠ none)) := by
      intro hno
      have sx : Step [lb, b2, b3] h' [lb, b2, b3] (Ha.put lb R.ready) := by rw [hHa]; exact (Step.put (.inl (by simp))).trans (Step.put (.inl (by simp)))
      have nn : ∀ {k o}, k ≠ lb → h' k = some o → (Ha.put lb R.ready) k = some o := fun {k o} hne e => by rw [put_ne hne]; exact la hne e
      refine ⟨sx, put_self, i2.trans sx, nn n0l i3, nn n1l i4, nn n2l i5, nn n3l i6, fun j' i' s' x' hj' hl' hL' => ?_, fun k hk => sx.dom k (i8 k hk)⟩
      by_cases e : j' = j
      · subst e; rw [hj] at hl'; cases hl'; rw [g2] at hL'; cases hL'; exact hno
      · exact i7 j' i' s' x' (by omega) hl' hL'
    refine ⟨_, by rw [cell_of ba]; rfl, _, by rw [cell_of (la n0l i3)]; rfl, bcase_intro (fun hc => ?_) fun hc => ?_⟩
    · have hc := eqn hc
      unfold proxy_Proxies_Find.k3
      rw [← hHa]
      simp only [someD_some, Addr.add_mk, Nat.zero_add]
      refine ⟨_, by rw [cell_of ba]; rfl, _, by rw [cell_of (la n1l i4)]; rfl, bcase_intro (fun hc2 => ?_) fun hc2 => ?_⟩
      · have hc2 := eqn hc2
        unfold proxy_Proxies_Find.k2
        rw [← hHa]
        simp only [someD_some, Addr.add_mk, Nat.zero_add]
        refine ⟨x.cut, by rw [cell_of ba]; rfl, bcase_intro (fun hc3 => ?_) fun hc3 => ?_⟩
        · have hc3 : x.cut = false := by simpa using hc3
          unfold proxy_Proxies_Find.k1
          rw [← hHa]
          have a2 := la n2l i5
          have a3 := la n3l i6
          refine ⟨⟨_, by rw [cell_of a2]; rfl⟩, frozen_of a2, ?_⟩
          obtain ⟨Hb, hHb⟩ : ∃ Hb, Hb = Ha.setCell ⟨b2, 0, none⟩ (.int .u64 (hd i s.g : Nat)) := ⟨_, rfl⟩
          rw [← hHb]
          have m2 : Hb b2 = some (.cells #[.int .u64 (hd i s.g : Nat)] T.uint64 (0, 0)) := by rw [hHb, setCell_blk a2]; rfl
          have m3 : Hb b3 = some (.cells #[.bool false] T.bool (0, 0)) := by rw [hHb, setCell_ne n32]; exact a3
          refine ⟨⟨_, by rw [cell_of m3]; rfl⟩, frozen_of m3, ?_⟩
          obtain ⟨Hc, hHc⟩ : ∃ Hc, Hc = Hb.setCell ⟨b3, 0, none⟩ (.bool true) := ⟨_, rfl⟩
          rw [← hHc]
          have p3 : Hc b3 = some (.cells #[.bool true] T.bool (0, 0)) := by rw [hHc, setCell_blk m3]; rfl
          have p2 : Hc b2 = some (.cells #[.int .u64 (hd i s.g : Nat)] T.uint64 (0, 0)) := by rw [hHc, setCell_ne (Ne.symm n32)]; exact m2
          have pl : Hc lb = some R.busy := by rw [hHc, setCell_ne (Ne.symm n3l), hHb, setCell_ne (Ne.symm n2l)]; exact lla
          have sx : Step [lb, b2, b3] h' [lb, b2, b3] Hc := by
            rw [hHc, hHb, hHa]
            exact ((Step.put (.inl (by simp))).trans (Step.setCell (by rw [← hHa]; exact a2) (by simp))).trans (Step.setCell (by rw [← hHa, ← hHb]; exact m3) (by simp))
          refine ⟨pl, sx.trans (Step.put (.inl (by simp))), .inr ⟨rfl, ?_⟩⟩
          unfold proxy_Proxies_Find.k4
          refine .inr (.inl ⟨put_self, _, by rw [put_put, cell_of (by rw [put_ne n2l]; exact p2)]; rfl, _, by rw [put_put, cell_of (by rw [put_ne n3l]; exact p3)]; rfl, ?_⟩)
          refine h1 i s b x hs hst g1 g2 ⟨hc, hc2, hc3⟩ _ ?_
          rw [put_put]
          exact ((i2.trans sx).trans (Step.put (.inl (by simp)))).forget0
        · obtain ⟨y1, y2⟩ := nx fun e => by rw [e.2.2] at hc3; cases hc3
          exact ⟨lla, y1, .inl ⟨by trivial, y2⟩⟩
      · obtain ⟨y1, y2⟩ := nx fun e => nen hc2 e.2.1
        exact ⟨lla, y1, .inl ⟨by trivial, y2⟩⟩
    · obtain ⟨y1, y2⟩ := nx fun e => nen hc e.1
      exact ⟨lla, y1, .inl ⟨by trivial, y2⟩⟩
  · rintro h' ⟨i1, i2, i3, i4, i5, i6, i7, i8⟩
    unfold proxy_Proxies_Find.k4
    refine .inl ⟨i1, _, by rw [cell_of (by rw [put_ne n2l]; exact i5)]; rfl, _, by rw [cell_of (by rw [put_ne n3l]; exact i6)]; rfl, h0 (fun i s x hs hst hL => ?_) _ ?_⟩
    · have hm : (i, s) ∈ live 0 sp := live_mem.2 ⟨by omega, by simpa using hs, hst⟩
      obtain ⟨j', hj'⟩ := List.mem_iff_getElem?.1 hm
      exact i7 j' i s x (List.getElem?_eq_some_iff.1 hj').1 hj' hL
    · exact ((i2.trans (Step.put (.inl (by simp)))).forget0)
end Go.Den.Proxy
end

section
set_option linter.unusedVariables false
set_option maxRecDepth 100000
namespace Go.Den.Proxy
open Go Go.Den
variable {h h' : Hp} {c c' : Col} {K : Value → Hp → Prop} {Pp most n : Nat} {sp : List Sp} {fr : List Nat} {L : Nat → Option Prx} {i b b0 : Nat} {x : Prx} {y o : Obr}

theorem fm_setQ {α : Type} {f : α → List Value} {sz : Nat} {v : Value} : ∀ {L : List α} {i j : Nat} {a a' : α}, (∀ a ∈ L, (f a).length = sz) → L[i]? = some a → j < sz → (f a).set j v = f a' → (L.flatMap f).set (i * sz + j) v = (L.set i a').flatMap f
  | [], i, j, a, a', _, h, _, _ => by simp at h
  | z :: L, 0, j, a, a', hf, h, hj, e => by
    simp at h; subst h
    have hz := hf z (by simp)
    rw [List.set_cons_zero, List.flatMap_cons, List.flatMap_cons, Nat.zero_mul, Nat.zero_add, List.set_append_left _ _ (by omega), e]
  | z :: L, i + 1, j, a, a', hf, h, hj, e => by
    have hz := hf z (by simp)
    have ih := fm_setQ (v := v) (fun a ha => hf a (by simp [ha])) (show L[i]? = some a by simpa using h) hj e
    rw [List.set_cons_succ, List.flatMap_cons, List.flatMap_cons, List.set_append_right _ _ (by rw [hz, Nat.add_mul]; omega), ← ih]
    congr 2
    rw [hz, Nat.add_mul]; omega
theorem oc_setre {re : Nat} : (oc o).set 1 (.int .u32 (re : Int)) = oc { o with re := re } := rfl
theorem flatMap_len {l : List Obr} (ok : ∀ o ∈ l, o.Ok) : (ocs l).length = l.length * 36 := by
  unfold ocs
  induction l with
  | nil => rfl
  | cons z l ih => rw [List.flatMap_cons, List.length_append, oc_len (ok z (by simp)), ih fun o ho => ok o (by simp [ho])]; simp [Nat.add_mul]; omega

/-- Whether one may take. -/
structure MayOk (x : Prx) (y : Obr) : Prop where
  cnt : x.cnt < 4294967295
  at' : noIid x.has y.ii ∨ ∃ j o, atIid x.has y.ii j o ∧ o.re + y.re ≤ 4294967295 ∧ o.ip = y.ip
theorem atIid.inj {l : List Obr} {iid : List Nat} {j k : Nat} {o q : Obr} (a : atIid l iid j o) (b : atIid l iid k q) : j = k ∧ o = q := by
  have e : j = k := by
    rcases Nat.lt_trichotomy j k with h | h | h
    · exact absurd a.2.1 (b.2.2 j o h a.1)
    · exact h
    · exact absurd b.2.1 (a.2.2 k q h b.1)
  subst e
  have := a.1.symm.trans b.1
  exact ⟨rfl, Option.some.inj this⟩
theorem atIid.no {l : List Obr} {iid : List Nat} {j : Nat} {o : Obr} (a : atIid l iid j o) (b : noIid l iid) : False := b o (List.mem_of_getElem? a.1) a.2.1
theorem may_spec {a : Option Addr} {cap : Nat} (t : PxB h b x a cap) (hc : x.cnt < 4294967296) (ky : y.Ok)
    (h4 : x.cnt = 4294967295 ∨ (x.cnt < 4294967295 ∧ ∃ j o, atIid x.has y.ii j o ∧ 4294967295 < o.re + y.re) → ∀ h', Step [] h [] h' → K (.int .i64 4) h')
    (h5 : x.cnt < 4294967295 → ∀ j o, atIid x.has y.ii j o → o.re + y.re ≤ 4294967295 → o.ip ≠ y.ip → ∀ h', Step [] h [] h' → K (.int .i64 5) h')
    (h0 : MayOk x y → ∀ h', Step [] h [] h' → K (.int .i64 0) h') :
    HC P proxy_proxy_may.n #[.pointer (some ⟨b, 0, none⟩), .agg (oc y).toArray] h K := by
  refine proxy_proxy_may.hc ?_
  unfold proxy_proxy_may
  intro b0 hb0
  obtain ⟨H, hH⟩ : ∃ H, H = h.put b0 (.cells (oc y).toArray T.api_Objref (0, 0)) := ⟨_, rfl⟩
  rw [← hH]
  have st : Step [] h [] H := by rw [hH]; exact Step.put (.inr hb0)
  have y0 : H b0 = some (.cells (oc y).toArray T.api_Objref (0, 0)) := by rw [hH, put_self]
  have t1 := t.step st
  simp only [someD_some, Addr.add_mk, Nat.zero_add]
  refine ⟨_, by rw [cell_of t1.blk]; rfl, bcase_intro (fun hm => ?_) fun hm => ?_⟩
  · have hm : x.cnt = 4294967295 := by have : (x.cnt : Int) = 4294967295 := by simpa using hm
                                       omega
    unfold proxy_proxy_may.k0
    rw [← hH]
    exact h4 (.inl hm) H st
  have hm : x.cnt < 4294967295 := by
    have : ¬ (x.cnt : Int) = 4294967295 := by simpa using hm
    omega
  unfold proxy_proxy_may.k4
  rw [← hH]
  simp only [Addr.add_mk, Nat.zero_add]
  refine ⟨_, oc_ii ky (oc_blk ky y0), place_spec t1 ky.ii (fun hno h2 s2 => ⟨_, rfl, ?_⟩) fun j o hat h2 s2 => ⟨_, rfl, ?_⟩⟩
  · unfold proxy_proxy_may.k3
    exact bcT rfl (h0 ⟨hm, .inl hno⟩ h2 (st.trans s2))
  · have t2 := t1.step s2
    have s02 := st.trans s2
    have ko := t.ok o (List.mem_of_getElem? hat.1)
    obtain ⟨p, e, hp⟩ := oc_at t2.src t2.ok hat.1
    have hjl := (List.getElem?_eq_some_iff.1 hat.1).1
    have y2 := s2.keepB0 y0
    unfold proxy_proxy_may.k3
    refine bcF (decide_eq_false (by omega)) ?_
    unfold proxy_proxy_may.k2
    simp only [someD_some, Addr.add_mk, Nat.zero_add]
    refine ⟨_, by rw [cell_of y2]; rfl, _, _, _, by rw [cell_of t2.blk]; rfl, by omega, by omega, ?_⟩
    rw [e]
    simp only [someD_some, Int.toNat_natCast]
    have kr := ko.re
    refine ⟨(o.re : Int), hp.2 1 _ rfl, ?_⟩
    rw [show IntKind.wrap .u32 (4294967295 - (o.re : Int)) = 4294967295 - (o.re : Int) by rw [IntKind.wrap_u32]; omega]
    refine bcase_intro (fun hd => ?_) fun hd => ?_
    · have hd := of_decide_eq_true hd
      exact h4 (.inr ⟨hm, j, o, hat, by omega⟩) h2 s02
    · have hd := of_decide_eq_false hd
      unfold proxy_proxy_may.k1
      simp only [someD_some, Addr.add_mk, Nat.zero_add]
      refine ⟨_, _, _, by rw [cell_of t2.blk]; rfl, by omega, by omega, ?_⟩
      rw [e]
      simp only [someD_some, Int.toNat_natCast]
      refine ⟨_, oc_ip ko hp, _, oc_ip ky (oc_blk ky y2), intCells_guid ko.ip.1, intCells_guid ky.ip.1, ?_⟩
      rw [aggEq_gcs]
      refine bcase_intro (fun he => ?_) fun he => ?_
      · exact h5 hm j o hat (by omega) (by simpa using he) h2 s02
      · exact h0 ⟨hm, .inr ⟨j, o, hat, by omega, by simpa using he⟩⟩ h2 s02
end Go.Den.Proxy
end

section
set_option linter.unusedVariables false
set_option maxRecDepth 100000
namespace Go.Den.Proxy
open Go Go.Den
variable {h h' : Hp} {c c' : Col} {K : Value → Hp → Prop} {Pp most n A : Nat} {sp : List Sp} {fr : List Nat} {L : Nat → Option Prx} {i b b0 : Nat} {x : Prx} {y o : Obr} {s : Sp}

theorem slObr : SliceTy P T.sl_api_Objref T.api_Objref 36 := sliceTy_of (by kernel_rfl)
def tkNew (x : Prx) (y : Obr) : Prx := { x with cnt := x.cnt + 1, has := x.has ++ [y] }
def tkAdd (x : Prx) (y : Obr) (j : Nat) (o : Obr) : Prx := { x with cnt := x.cnt + 1, has := x.has.set j { o with re := o.re + y.re } }
theorem ocs_app {l : List Obr} : ocs (l ++ [y]) = ocs l ++ oc y := by simp [ocs]
theorem take_tail (t : PStA h c Pp most sp fr L n A) (w : WF h c) (hn : n < 500000) (hs : sp[i]? = some s) (ht : s.t = true) (hL : L i = some x) (ky : y.Ok) (hb0 : h b0 = some (.cells (oc y).toArray T.api_Objref (0, 0))) (cb0 : c b0 = z0)
    (h4 : x.cnt = 4294967295 ∨ (x.cnt < 4294967295 ∧ ∃ j o, atIid x.has y.ii j o ∧ 4294967295 < o.re + y.re) → ∀ h', Step [] h [] h' → K (.tuple #[.int .u64 0, .int .i64 4]) h')
    (h5 : x.cnt < 4294967295 → ∀ j o, atIid x.has y.ii j o → o.re + y.re ≤ 4294967295 → o.ip ≠ y.ip → ∀ h', Step [] h [] h' → K (.tuple #[.int .u64 0, .int .i64 5]) h')
    (hA : x.cnt < 4294967295 → noIid x.has y.ii → ∀ h' c', PStA h' c' Pp most sp fr (setL L i (some (tkNew x y))) (n + 1) A → Chg (pcR i) h c h' c' → K (.tuple #[.int .u64 (hd i s.g : Nat), .int .i64 0]) h')
    (hB : x.cnt < 4294967295 → ∀ j o, atIid x.has y.ii j o → o.re + y.re ≤ 4294967295 → o.ip = y.ip → ∀ h' c', PStA h' c' Pp most sp fr (setL L i (some (tkAdd x y j o))) (n + 1) A → Chg (pcR i) h c h' c' → K (.tuple #[.int .u64 (hd i s.g : Nat), .int .i64 0]) h') :
    proxy_Proxies_Take.k9 (some ⟨Pp, 0, none⟩) (hd i s.g : Nat) h b0 K := by
  unfold proxy_Proxies_Take.k9
  have hgen := t.g
  have hil := (List.getElem?_eq_some_iff.1 hs).1
  have hf := fnd_hd hs ht (by omega)
  refine pfind_spec ⟨A, t⟩ (t.num hs) (fun e => by rw [hf] at e; cases e) fun i' s' b x' e hx hL' tb => ⟨_, _, rfl, (oc y).toArray, ?_⟩
  rw [hf] at e; cases e
  rw [hL] at hL'; cases hL'
  obtain ⟨a, cap, r⟩ := tb
  have rb := r.toB (by omega)
  unfold proxy_Proxies_Take.k8
  refine ⟨oc_blk ky hb0, may_spec rb r.cnt ky (fun hh h2 s2 => ⟨_, rfl, ?_⟩) (fun hc j o hat hle hne h2 s2 => ⟨_, rfl, ?_⟩) fun hok h2 s2 => ⟨_, rfl, ?_⟩⟩
  · unfold proxy_Proxies_Take.k7
    exact bcT rfl (h4 hh h2 s2)
  · unfold proxy_Proxies_Take.k7
    exact bcT rfl (h5 hc j o hat hle hne h2 s2)
  unfold proxy_Proxies_Take.k7
  refine bcF rfl ?_
  unfold proxy_Proxies_Take.k6
  have w2 := w.read s2
  have blk2 := s2.keepB0 r.blk
  have y2 := s2.keepB0 hb0
  have hcm := hok.cnt
  simp only [someD_some, Addr.add_mk, Nat.zero_add]
  refine ⟨_, by rw [cell_of blk2]; rfl, ⟨_, by rw [cell_of blk2]; rfl⟩, frozen_of blk2, ?_⟩
  have ew : IntKind.wrap .u32 ((x.cnt : Int) + 1) = ((x.cnt + 1 : Nat) : Int) := by rw [IntKind.wrap_u32]; omega
  rw [ew]
  obtain ⟨H1, hH1⟩ : ∃ H1, H1 = h2.setCell ⟨b, 2, none⟩ (.int .u32 ((x.cnt + 1 : Nat) : Int)) := ⟨_, rfl⟩
  rw [← hH1]
  obtain ⟨x1, hx1⟩ : ∃ x1 : Prx, x1 = { x with cnt := x.cnt + 1 } := ⟨_, rfl⟩
  have blk1 : H1 b = some (.cells (pxc x1 a cap).toArray T.proxy_proxy (0, 0)) := by rw [hH1, setCell_blk blk2, hx1]; rfl
  have q2 : Chg (pcR i) h c h2 c := Chg.of_read s2 w
  have q1 : Chg (pcR i) h c H1 c := by rw [hH1]; exact q2.set (.inr (by rw [r.col]; exact .inl rfl))
  have sm1 : ∀ {Q : Rg → Prop}, ¬ Q (2, 2 * i) → Same Q h2 c H1 c := fun hq => by rw [hH1]; exact Same.set (by rw [r.col]; exact hq)
  have n21 : ((2, 2 * i) : Rg) ≠ (2, 2 * i + 1) := fun e => by simp at e
  have row1 : Sl H1 c (2, 2 * i + 1) T.api_Objref 36 a x.has.length cap (ocs x.has) := (r.row.keep (Same.step s2 w (by simp) (by simp))).keep (sm1 n21)
  have yne : b0 ≠ b := fun e => by rw [e, r.col] at cb0; simp at cb0
  have y1 : H1 b0 = some (.cells (oc y).toArray T.api_Objref (0, 0)) := by rw [hH1, setCell_ne yne]; exact y2
  have bx1 : PxB H1 b x1 a cap := ⟨blk1, by rw [hx1]; exact row1.src, by rw [hx1]; exact r.ok, by rw [hx1]; have := r.len; show x.has.length < _; omega⟩
  refine ⟨_, oc_ii ky (oc_blk ky y1), place_spec bx1 ky.ii (fun hno h3 s3 => ⟨_, rfl, ?_⟩) fun j o hat h3 s3 => ⟨_, rfl, ?_⟩⟩
  · have hno : noIid x.has y.ii := by rw [hx1] at hno; exact hno
    unfold proxy_Proxies_Take.k5
    refine bcF rfl ?_
    unfold proxy_Proxies_Take.k4
    have w3 := q1.wf.read s3
    have blk3 := s3.keepB0 blk1
    have y3 := s3.keepB0 y1
    have row3 : Sl h3 c (2, 2 * i + 1) T.api_Objref 36 a x.has.length cap (ocs x.has) := row1.keep (Same.step s3 q1.wf (by simp) (by simp))
    simp only [someD_some, Addr.add_mk, Nat.zero_add]
    have el : x1.has.length = x.has.length := by rw [hx1]
    refine ⟨_, _, _, by rw [cell_of blk3]; rfl, _, oc_blk ky y3, ⟨by rw [List.size_toArray, oc_len ky], fun v hv => oc_cellish v (by simpa using hv), trivial⟩, fun b3 hb3 => ?_⟩
    have ec : catA (oc y).toArray [] = oc y := by simp [catA]
    rw [ec, el]
    have hlen := r.len
    refine push_sl (xs := oc y) slObr row3 w3 (by simp) hb3 (oc_len ky) oc_cellish (by omega) fun a4 cap4 h4' c4 s4 q4 => ⟨_, _, _, rfl, ?_⟩
    obtain ⟨b4, cb4⟩ := q4.keep b (by rw [blk3]; simp) (by rw [r.col]; exact n21)
    have blk4 := b4.trans blk3
    have col4 := cb4.trans r.col
    unfold proxy_Proxies_Take.k3
    simp only [someD_some, Addr.add_mk, Nat.zero_add]
    refine ⟨⟨_, by rw [cell_of blk4]; rfl⟩, frozen_of blk4, ?_⟩
    obtain ⟨H5, hH5⟩ : ∃ H5, H5 = h4'.setCell ⟨b, 4, none⟩ (.slice a4 (x.has.length + 1) cap4) := ⟨_, rfl⟩
    rw [← hH5]
    have blk5 : H5 b = some (.cells (pxc (tkNew x y) a4 cap4).toArray T.proxy_proxy (0, 0)) := by
      rw [hH5, setCell_blk blk4, hx1]
      simp [pxc, tkNew]
    have q3 : Chg (pcR i) h c h3 c := q1.trans (Chg.of_read s3 q1.wf)
    have q5 : Chg (pcR i) h c H5 c4 := by rw [hH5]; exact (q3.trans (q4.weak fun r hr => .inr hr)).set (.inr (by rw [col4]; exact .inl rfl))
    have row5 : Sl H5 c4 (2, 2 * i + 1) T.api_Objref 36 a4 (tkNew x y).has.length cap4 (ocs (tkNew x y).has) := by
      have e1 : (tkNew x y).has.length = x.has.length + 1 := by simp [tkNew]
      have e2 : ocs (tkNew x y).has = ocs x.has ++ oc y := ocs_app
      rw [e1, e2]
      exact s4.keep (by rw [hH5]; exact Same.set (by rw [col4]; exact n21))
    refine hA hcm hno H5 c4 (t.one w hs ht hx q5 ⟨a4, cap4, blk5, col4, row5, fun z hz => ?_, by simp [tkNew]; omega, r.ox, by simp [tkNew]; omega⟩ (by omega)) q5
    rcases List.mem_append.1 hz with hz | hz
    · exact r.ok z hz
    · simp at hz; rw [hz]; exact ky
  · have hat : atIid x.has y.ii j o := by rw [hx1] at hat; exact hat
    have ko := r.ok o (List.mem_of_getElem? hat.1)
    have hjl := (List.getElem?_eq_some_iff.1 hat.1).1
    have hmo : o.re + y.re ≤ 4294967295 ∧ o.ip = y.ip := by
      rcases hok.at' with hno | ⟨j', o', hat', h1, h2⟩
      · exact (hat.no hno).elim
      · obtain ⟨-, e⟩ := hat.inj hat'
        subst e; exact ⟨h1, h2⟩
    have w3 := q1.wf.read s3
    have blk3 := s3.keepB0 blk1
    have y3 := s3.keepB0 y1
    have row3 : Sl h3 c (2, 2 * i + 1) T.api_Objref 36 a x.has.length cap (ocs x.has) := row1.keep (Same.step s3 q1.wf (by simp) (by simp))
    have hfl := flatMap_len r.ok
    obtain ⟨bp, off, ea, cbp, ecell, efr, eset⟩ := row3.at (j := j * 36 + 1) (by rw [hfl]; omega)
    have hval : (ocs x.has)[j * 36 + 1]? = some (.int .u32 (o.re : Int)) := by
      obtain ⟨p, e, hp⟩ := oc_at row3.src r.ok hat.1
      have := hp.2 1 (.int .u32 (o.re : Int)) rfl
      rw [ea] at e; cases e
      rw [Addr.add_mk, Addr.add_mk] at this
      rw [← ecell, ← this, Nat.add_assoc]
    rw [hval] at ecell
    unfold proxy_Proxies_Take.k5
    refine bcT (decide_eq_true (by omega)) ?_
    unfold proxy_Proxies_Take.k2
    simp only [someD_some, Addr.add_mk, Nat.zero_add]
    have el : x1.has.length = x.has.length := by rw [hx1]
    refine ⟨_, _, _, by rw [cell_of blk3]; rfl, by omega, by rw [el]; omega, ?_⟩
    rw [ea]
    simp only [someD_some, Addr.add_mk, Int.toNat_natCast, Nat.add_assoc]
    have eu : IntKind.wrap .u32 ((o.re : Int) + (y.re : Int)) = ((o.re + y.re : Nat) : Int) := by rw [IntKind.wrap_u32]; omega
    refine ⟨(o.re : Int), ecell, (y.re : Int), by rw [cell_of y3]; rfl, by omega, by rw [el]; omega, ⟨_, ecell⟩, efr, ?_⟩
    rw [eu]
    obtain ⟨H5, hH5⟩ : ∃ H5, H5 = h3.setCell ⟨bp, off + (j * 36 + 1), none⟩ (.int .u32 ((o.re + y.re : Nat) : Int)) := ⟨_, rfl⟩
    rw [← hH5]
    have q3 : Chg (pcR i) h c h3 c := q1.trans (Chg.of_read s3 q1.wf)
    have q5 : Chg (pcR i) h c H5 c := by rw [hH5]; exact q3.set (.inr (by rw [cbp]; exact .inr rfl))
    have nbp : b ≠ bp := fun e => by rw [← e, r.col] at cbp; exact n21 cbp
    have blk5 : H5 b = some (.cells (pxc (tkAdd x y j o) a cap).toArray T.proxy_proxy (0, 0)) := by
      rw [hH5, setCell_ne nbp, blk3, hx1]
      simp [pxc, tkAdd]
    have row5 : Sl H5 c (2, 2 * i + 1) T.api_Objref 36 a (tkAdd x y j o).has.length cap (ocs (tkAdd x y j o).has) := by
      have e1 : (tkAdd x y j o).has.length = x.has.length := by simp [tkAdd]
      have e2 : ocs (tkAdd x y j o).has = (ocs x.has).set (j * 36 + 1) (.int .u32 ((o.re + y.re : Nat) : Int)) := (fm_setQ (fun z hz => oc_len (r.ok z hz)) hat.1 (by omega) oc_setre).symm
      rw [e1, e2, hH5]
      exact eset _
    refine hB hcm j o hat hmo.1 hmo.2 H5 c (t.one w hs ht hx q5 ⟨a, cap, blk5, r.col, row5, fun z hz => ?_, by simp [tkAdd]; have := r.len; omega, r.ox, by simp [tkAdd]; omega⟩ (by omega)) q5
    rcases List.mem_or_eq_of_mem_set hz with hz | hz
    · exact r.ok z hz
    · rw [hz]; exact ⟨ko.fl, by show o.re + y.re < _; omega, ko.ox, ko.oid, ko.ip, ko.ii⟩
end Go.Den.Proxy
end

section
set_option linter.unusedVariables false
set_option maxRecDepth 100000
namespace Go.Den.Proxy
open Go Go.Den
variable {h h' : Hp} {c c' : Col} {K : Value → Hp → Prop} {Pp most n A : Nat} {sp : List Sp} {fr : List Nat} {L : Nat → Option Prx} {i b b0 : Nat} {x : Prx} {y o : Obr} {s : Sp}

def px0 (ox oid : Nat) : Prx := ⟨ox, oid, 0, false, []⟩
def mayTake (y : Obr) : Prop := y.fl = 0 ∧ 0 < y.re
theorem Take_spec (t : PSt h c Pp most sp fr L n) (w : WF h c) (hn : n < 400000) (ky : y.Ok)
    (hA : ¬ mayTake y → ∀ h', Step [] h [] h' → K (.tuple #[.int .u64 0, .int .i64 1]) h')
    (hB : mayTake y → (∀ i s x, sp[i]? = some s → s.t = true → L i = some x → ¬ isOf x y.ox y.oid) → fr = [] → sp.length = most → ∀ h', Step [] h [] h' → K (.tuple #[.int .u64 0, .int .i64 3]) h')
    (hC : mayTake y → (∀ i s x, sp[i]? = some s → s.t = true → L i = some x → ¬ isOf x y.ox y.oid) → ∀ i b g sp' fr', placed sp fr (some ⟨b, 0, none⟩) i g sp' fr' →
      ∀ h' c', PSt h' c' Pp most sp' fr' (setL L i (some (tkNew (px0 y.ox y.oid) y))) (n + 1) → Chg prR h c h' c' → K (.tuple #[.int .u64 (hd i g : Nat), .int .i64 0]) h')
    (h4 : mayTake y → ∀ i s x, sp[i]? = some s → s.t = true → L i = some x → isOf x y.ox y.oid → x.cnt = 4294967295 ∨ (x.cnt < 4294967295 ∧ ∃ j o, atIid x.has y.ii j o ∧ 4294967295 < o.re + y.re) → ∀ h', Step [] h [] h' → K (.tuple #[.int .u64 0, .int .i64 4]) h')
    (h5 : mayTake y → ∀ i s x, sp[i]? = some s → s.t = true → L i = some x → isOf x y.ox y.oid → x.cnt < 4294967295 → ∀ j o, atIid x.has y.ii j o → o.re + y.re ≤ 4294967295 → o.ip ≠ y.ip → ∀ h', Step [] h [] h' → K (.tuple #[.int .u64 0, .int .i64 5]) h')
    (hD : mayTake y → ∀ i s x, sp[i]? = some s → s.t = true → L i = some x → isOf x y.ox y.oid → x.cnt < 4294967295 → noIid x.has y.ii → ∀ h' c', PSt h' c' Pp most sp fr (setL L i (some (tkNew x y))) (n + 1) → Chg prR h c h' c' → K (.tuple #[.int .u64 (hd i s.g : Nat), .int .i64 0]) h')
    (hE : mayTake y → ∀ i s x, sp[i]? = some s → s.t = true → L i = some x → isOf x y.ox y.oid → x.cnt < 4294967295 → ∀ j o, atIid x.has y.ii j o → o.re + y.re ≤ 4294967295 → o.ip = y.ip → ∀ h' c', PSt h' c' Pp most sp fr (setL L i (some (tkAdd x y j o))) (n + 1) → Chg prR h c h' c' → K (.tuple #[.int .u64 (hd i s.g : Nat), .int .i64 0]) h') :
    HC P proxy_Proxies_Take.n #[.pointer (some ⟨Pp, 0, none⟩), .agg (oc y).toArray] h K := by
  refine proxy_Proxies_Take.hc ?_
  unfold proxy_Proxies_Take
  intro b0 hb0
  refine bcF rfl ?_
  unfold proxy_Proxies_Take.k16
  obtain ⟨H0, hH0⟩ : ∃ H0, H0 = h.put b0 (.cells (oc y).toArray T.api_Objref (0, 0)) := ⟨_, rfl⟩
  rw [← hH0]
  have s0 : Step [] h [] H0 := by rw [hH0]; exact Step.put (.inr hb0)
  have y0 : H0 b0 = some (.cells (oc y).toArray T.api_Objref (0, 0)) := by rw [hH0, put_self]
  have cb0 : c b0 = z0 := w.fresh hb0
  simp only [Addr.add_mk, Nat.zero_add]
  refine ⟨_, by rw [cell_of y0]; rfl, bcase_intro (fun hf => ?_) fun hf => ?_⟩
  · have hf : y.fl ≠ 0 := by
      have : ¬ (y.fl : Int) = 0 := by simpa using hf
      omega
    unfold proxy_Proxies_Take.k1
    rw [← hH0]
    exact hA (fun m => hf m.1) H0 s0
  have hf : y.fl = 0 := by
    have : (y.fl : Int) = 0 := by simpa using hf
    omega
  unfold proxy_Proxies_Take.k15
  rw [← hH0]
  refine ⟨_, oc_blk ky y0, Check_spec (fun hr h1 s1 => ⟨_, rfl, ?_⟩) fun hr h1 s1 => ⟨_, rfl, ?_⟩⟩
  · unfold proxy_Proxies_Take.k14
    exact bcT rfl (hA (fun m => hr ⟨by omega, by rw [hf]; simp [m.2]⟩) h1 (s0.trans s1))
  have hm : mayTake y := ⟨hf, by have := hr.2.1 hf; exact this⟩
  unfold proxy_Proxies_Take.k14
  refine bcF rfl ?_
  unfold proxy_Proxies_Take.k13
  have s01 := s0.trans s1
  have y1 := s1.keepB0 y0
  have w1 := w.read s01
  have t1 := t.read w s01
  simp only [Addr.add_mk, Nat.zero_add]
  refine ⟨_, by rw [cell_of y1]; rfl, _, by rw [cell_of y1]; rfl, pFind_spec t1 w1 (fun hno h2 s2 => ⟨_, _, rfl, ?_⟩) fun i s b x hs hst hx hL hof h2 s2 => ⟨_, _, rfl, ?_⟩⟩
  · have s02 := s01.trans s2
    have w2 := w.read s02
    have y2 := s2.keepB0 y1
    obtain ⟨A, tA⟩ := id (t.read w s02)
    unfold proxy_Proxies_Take.k12
    refine bcT rfl ?_
    unfold proxy_Proxies_Take.k11
    simp only [someD_some, Addr.add_mk, Nat.zero_add]
    refine ⟨_, by rw [cell_of tA.blk]; rfl, (y.ox : Int), by rw [cell_of y2]; rfl, (y.oid : Int), by rw [cell_of y2]; rfl, fun b2 hb2 => ?_⟩
    obtain ⟨H3, hH3⟩ : ∃ H3, H3 = h2.put b2 (.cells #[.int .u64 (y.ox : Int), .int .u64 (y.oid : Int), .int .u32 0, .bool Bool.false, .slice none 0 0] T.proxy_proxy (0, 0)) := ⟨_, rfl⟩
    rw [← hH3]
    have s3 : Step [] h2 [] H3 := by rw [hH3]; exact Step.put (.inr hb2)
    have p3 : H3 b2 = some (.cells (pxc (px0 y.ox y.oid) none 0).toArray T.proxy_proxy (0, 0)) := by rw [hH3, put_self]; rfl
    have t3 := tA.read w2 s3
    have w3 := w2.read s3
    have s03 := s02.trans s3
    have cb2 : c b2 = z0 := w2.fresh hb2
    have hbz : h b2 = none := Classical.byContradiction fun hne => s02.dom b2 hne hb2
    refine Put_spec t3.ar w3 (fun hfr hfull => ⟨_, _, rfl, ?_⟩) fun i g sp' fr' h4' c4 pl ar4 q4 => ⟨_, _, rfl, ?_⟩
    · unfold proxy_Proxies_Take.k10
      exact bcT rfl (hB hm hno hfr hfull H3 s03)
    · unfold proxy_Proxies_Take.k10
      refine bcF rfl ?_
      have pl : placed sp fr (some ⟨b2, 0, none⟩) i g sp' fr' := pl
      obtain ⟨pb, cpb⟩ := q4.keep b2 (by rw [p3]; simp) (by rw [cb2]; simp)
      have pb4 := pb.trans p3
      have ccb : c4 b2 = z0 := cpb.trans cb2
      obtain ⟨yb, cyb⟩ := q4.keep b0 (by rw [s3.keepB0 y2]; simp) (by rw [cb0]; simp)
      have y4 := yb.trans (s3.keepB0 y2)
      have ny : b0 ≠ b2 := fun e => by rw [e, hb2] at y2; cases y2
      -- the fresh one is laid in
      have same4 : ∀ {Q : Rg → Prop}, (∀ r, Q r → r ≠ z0 ∧ r.1 ≠ 1) → Same Q H3 c h4' c4 := fun hq => q4.same w3 hq
      have smc : ∀ {Q : Rg → Prop}, ¬ Q z0 → Same Q h4' c4 h4' (c4.set b2 (2, 2 * i)) := fun hq => Same.col (by rw [ccb]; exact hq)
      have w4 : WF h4' (c4.set b2 (2, 2 * i)) := q4.wf.col (by rw [pb4]; simp)
      have tb : PxAt h4' (c4.set b2 (2, 2 * i)) i b2 (px0 y.ox y.oid) n := ⟨none, 0, pb4, Col.set_self, Sl.none, by simp [px0], by simp [px0], ⟨ky.ox, ky.oid⟩, by simp [px0]⟩
      have t4 : PStA h4' (c4.set b2 (2, 2 * i)) Pp most sp' fr' (setL L i (some (px0 y.ox y.oid))) n A :=
        t3.add pl (ar4.keep (smc (by simp))) ((same4 fun r hr => by rw [hr]; simp).trans (smc (by simp)))
          (fun j hj => (same4 fun r hr => ⟨pcR_z hr, by rcases hr with rfl | rfl <;> simp⟩).trans (smc (by simp [pcR]))) tb (Nat.le_refl _)
      have q04 : Chg prR h c h4' (c4.set b2 (2, 2 * i)) := ((Chg.of_read s03 w).trans (q4.weak fun r hr => .inl hr)).col hbz (by rw [pb4]; simp)
      have y5 : (c4.set b2 (2, 2 * i)) b0 = z0 := by rw [Col.set_ne ny]; exact cyb.trans cb0
      refine take_tail (s := ⟨some ⟨b2, 0, none⟩, g, true⟩) t4 w4 (by omega) pl.at rfl setL_self ky y4 y5 (fun hh => ?_) (fun _ j o hat => ?_) (fun _ hno' h6 c6 t6 q6 => ?_) fun _ j o hat => ?_
      · refine False.elim (hh.elim (fun (hh : (0 : Nat) = 4294967295) => by omega) fun ⟨_, j, o, hat, _⟩ => ?_)
        have := hat.1; simp [px0] at this
      · have := hat.1; simp [px0] at this
      · rw [setL_setL] at t6
        exact hC hm hno i b2 g sp' fr' pl h6 c6 ⟨A, t6⟩ (q04.trans (q6.weak fun r hr => pcR_pr hr))
      · have := hat.1; simp [px0] at this
  · have s02 := s01.trans s2
    have w2 := w.read s02
    have y2 := s2.keepB0 y1
    obtain ⟨A, tA⟩ := id (t.read w s02)
    unfold proxy_Proxies_Take.k12
    refine bcF rfl ?_
    have q2 : Chg prR h c h2 c := Chg.of_read s02 w
    exact take_tail tA w2 (by omega) hs hst hL ky y2 cb0 (fun hh h3 s3 => h4 hm i s x hs hst hL hof hh h3 (s02.trans s3)) (fun hc j o hat hle hne h3 s3 => h5 hm i s x hs hst hL hof hc j o hat hle hne h3 (s02.trans s3))
      (fun hc hno h3 c3 t3 q3 => hD hm i s x hs hst hL hof hc hno h3 c3 ⟨A, t3⟩ (q2.trans (q3.weak fun r hr => pcR_pr hr))) fun hc j o hat hle he h3 c3 t3 q3 => hE hm i s x hs hst hL hof hc j o hat hle he h3 c3 ⟨A, t3⟩ (q2.trans (q3.weak fun r hr => pcR_pr hr))
end Go.Den.Proxy
end

section
set_option linter.unusedVariables false
set_option maxRecDepth 100000
namespace Go.Den.Proxy
open Go Go.Den

noncomputable section

def slices_pdqsortCmpFunc_api_Objref.k0 (a0 : Option Addr) (len0 : Nat) (cap0 : Nat) (n4 : Int) (n5 : Int) (g0 : Nat) (first0 : Array Value) (capt0 : Array Value) (h0 : Hp) (K : Value → Hp → Prop) : Prop :=
 HC P slices_insertionSortCmpFunc_api_Objref.n #[.slice a0 len0 cap0, .int .i64 n4, .int .i64 n5, .func (.func g0) first0 capt0] h0 (fun v0 h1 => K (.tuple #[]) h1)
def slices_pdqsortCmpFunc_api_Objref.k1 (a0 : Option Addr) (len0 : Nat) (cap0 : Nat) (n4 : Int) (n5 : Int) (g0 : Nat) (first0 : Array Value) (capt0 : Array Value) (h0 : Hp) (K : Value → Hp → Prop) : Prop :=
 HC P slices_heapSortCmpFunc_api_Objref.n #[.slice a0 len0 cap0, .int .i64 n4, .int .i64 n5, .func (.func g0) first0 capt0] h0 (fun v1 h2 => K (.tuple #[]) h2)
def slices_pdqsortCmpFunc_api_Objref.k2 (I0 : List Value → Hp → Prop) (n3 : Int) (b0 : Bool) (n9 : Int) (b1 : Bool) (n5 : Int) (h8 : Hp) (x0 : List Value → Hp → Nat) (n4 : Int) (h0 : Hp) : Prop :=
 (I0 [.int .i64 (IntKind.wrap .i64 (n3 - 1)), .bool b0, .int .i64 n9, .bool b1, .int .i64 n5] h8) ∧ (x0 [.int .i64 (IntKind.wrap .i64 (n3 - 1)), .bool b0, .int .i64 n9, .bool b1, .int .i64 n5] h8) < (x0 [.int .i64 n3, .bool b0, .int .i64 n4, .bool b1, .int .i64 n5] h0)
def slices_pdqsortCmpFunc_api_Objref.k3 (a0 : Option Addr) (len0 : Nat) (cap0 : Nat) (n4 : Int) (n5 : Int) (n6 : Int) (g0 : Nat) (first0 : Array Value) (capt0 : Array Value) (h7 : Hp) (I0 : List Value → Hp → Prop) (n3 : Int) (b0 : Bool) (b1 : Bool) (x0 : List Value → Hp → Nat) (h0 : Hp) : Prop :=
 HC P slices_partitionEqualCmpFunc_api_Objref.n #[.slice a0 len0 cap0, .int .i64 n4, .int .i64 n5, .int .i64 (IntKind.wrap .i64 ((IntKind.wrap .i64 (n5 - 1)) - (IntKind.wrap .i64 (n6 - n4)))), .func (.func g0) first0 capt0] h7 (fun v7 h8 => (∃ n9 : Int, (v7 = (.int .i64 n9)) ∧ (slices_pdqsortCmpFunc_api_Objref.k2 I0 n3 b0 n9 b1 n5 h8 x0 n4 h0)))
def slices_pdqsortCmpFunc_api_Objref.k4 (I0 : List Value → Hp → Prop) (n3 : Int) (b3 : Bool) (n10 : Int) (n5 : Int) (n4 : Int) (h10 : Hp) (x0 : List Value → Hp → Nat) (b0 : Bool) (b1 : Bool) (h0 : Hp) : Prop :=
 (I0 [.int .i64 (IntKind.wrap .i64 (n3 - 1)), .bool b3, .int .i64 (IntKind.wrap .i64 (n10 + 1)), .bool (decide ((IntKind.wrap .i64 (Int.tdiv (IntKind.wrap .i64 (n5 - n4)) 8)) ≤ (IntKind.wrap .i64 (n10 - n4)))), .int .i64 n5] h10) ∧ (x0 [.int .i64 (IntKind.wrap .i64 (n3 - 1)), .bool b3, .int .i64 (IntKind.wrap .i64 (n10 + 1)), .bool (decide ((IntKind.wrap .i64 (Int.tdiv (IntKind.wrap .i64 (n5 - n4)) 8)) ≤ (IntKind.wrap .i64 (n10 - n4)))), .int .i64 n5] h10) < (x0 [.int .i64 n3, .bool b0, .int .i64 n4, .bool b1, .int .i64 n5] h0)
def slices_pdqsortCmpFunc_api_Objref.k5 (a0 : Option Addr) (len0 : Nat) (cap0 : Nat) (n4 : Int) (n10 : Int) (n3 : Int) (g0 : Nat) (first0 : Array Value) (capt0 : Array Value) (h9 : Hp) (I0 : List Value → Hp → Prop) (b3 : Bool) (n5 : Int) (x0 : List Value → Hp → Nat) (b0 : Bool) (b1 : Bool) (h0 : Hp) : Prop :=
 HC P slices_pdqsortCmpFunc_api_Objref.n #[.slice a0 len0 cap0, .int .i64 n4, .int .i64 n10, .int .i64 (IntKind.wrap .i64 (n3 - 1)), .func (.func g0) first0 capt0] h9 (fun v9 h10 => (slices_pdqsortCmpFunc_api_Objref.k4 I0 n3 b3 n10 n5 n4 h10 x0 b0 b1 h0))
def slices_pdqsortCmpFunc_api_Objref.k6 (I0 : List Value → Hp → Prop) (n3 : Int) (b3 : Bool) (n4 : Int) (n5 : Int) (n10 : Int) (h11 : Hp) (x0 : List Value → Hp → Nat) (b0 : Bool) (b1 : Bool) (h0 : Hp) : Prop :=
 (I0 [.int .i64 (IntKind.wrap .i64 (n3 - 1)), .bool b3, .int .i64 n4, .bool (decide ((IntKind.wrap .i64 (Int.tdiv (IntKind.wrap .i64 (n5 - n4)) 8)) ≤ (IntKind.wrap .i64 (n5 - n10)))), .int .i64 n10] h11) ∧ (x0 [.int .i64 (IntKind.wrap .i64 (n3 - 1)), .bool b3, .int .i64 n4, .bool (decide ((IntKind.wrap .i64 (Int.tdiv (IntKind.wrap .i64 (n5 - n4)) 8)) ≤ (IntKind.wrap .i64 (n5 - n10)))), .int .i64 n10] h11) < (x0 [.int .i64 n3, .bool b0, .int .i64 n4, .bool b1, .int .i64 n5] h0)
def slices_pdqsortCmpFunc_api_Objref.k7 (a0 : Option Addr) (len0 : Nat) (cap0 : Nat) (n10 : Int) (n5 : Int) (n3 : Int) (g0 : Nat) (first0 : Array Value) (capt0 : Array Value) (h9 : Hp) (I0 : List Value → Hp → Prop) (b3 : Bool) (n4 : Int) (x0 : List Value → Hp → Nat) (b0 : Bool) (b1 : Bool) (h0 : Hp) : Prop :=
 HC P slices_pdqsortCmpFunc_api_Objref.n #[.slice a0 len0 cap0, .int .i64 (IntKind.wrap .i64 (n10 + 1)), .int .i64 n5, .int .i64 (IntKind.wrap .i64 (n3 - 1)), .func (.func g0) first0 capt0] h9 (fun v10 h11 => (slices_pdqsortCmpFunc_api_Objref.k6 I0 n3 b3 n4 n5 n10 h11 x0 b0 b1 h0))
def slices_pdqsortCmpFunc_api_Objref.k8 (n10 : Int) (n4 : Int) (n5 : Int) (a0 : Option Addr) (len0 : Nat) (cap0 : Nat) (n3 : Int) (g0 : Nat) (first0 : Array Value) (capt0 : Array Value) (h9 : Hp) (I0 : List Value → Hp → Prop) (b3 : Bool) (x0 : List Value → Hp → Nat) (b0 : Bool) (b1 : Bool) (h0 : Hp) : Prop :=
 ((8 : Int) ≠ 0) ∧ bcase (decide ((IntKind.wrap .i64 (n10 - n4)) < (IntKind.wrap .i64 (n5 - n10))))
 ((slices_pdqsortCmpFunc_api_Objref.k5 a0 len0 cap0 n4 n10 n3 g0 first0 capt0 h9 I0 b3 n5 x0 b0 b1 h0))
 ((slices_pdqsortCmpFunc_api_Objref.k7 a0 len0 cap0 n10 n5 n3 g0 first0 capt0 h9 I0 b3 n4 x0 b0 b1 h0))
def slices_pdqsortCmpFunc_api_Objref.k9 (a0 : Option Addr) (len0 : Nat) (cap0 : Nat) (n4 : Int) (n5 : Int) (n6 : Int) (g0 : Nat) (first0 : Array Value) (capt0 : Array Value) (h7 : Hp) (n3 : Int) (I0 : List Value → Hp → Prop) (x0 : List Value → Hp → Nat) (b0 : Bool) (b1 : Bool) (h0 : Hp) : Prop :=
 HC P slices_partitionCmpFunc_api_Objref.n #[.slice a0 len0 cap0, .int .i64 n4, .int .i64 n5, .int .i64 (IntKind.wrap .i64 ((IntKind.wrap .i64 (n5 - 1)) - (IntKind.wrap .i64 (n6 - n4)))), .func (.func g0) first0 capt0] h7 (fun v8 h9 => (∃ n10 : Int, (∃ b3 : Bool, (v8 = (.tuple #[.int .i64 n10, .bool b3])) ∧ (slices_pdqsortCmpFunc_api_Objref.k8 n10 n4 n5 a0 len0 cap0 n3 g0 first0 capt0 h9 I0 b3 x0 b0 b1 h0))))
def slices_pdqsortCmpFunc_api_Objref.k10 (n8 : Int) (a0 : Option Addr) (len0 : Nat) (cap0 : Nat) (n4 : Int) (n5 : Int) (n6 : Int) (g0 : Nat) (first0 : Array Value) (capt0 : Array Value) (h7 : Hp) (I0 : List Value → Hp → Prop) (n3 : Int) (b0 : Bool) (b1 : Bool) (x0 : List Value → Hp → Nat) (h0 : Hp) : Prop :=
 bcase ((!(decide (n8 < 0))))
 ((slices_pdqsortCmpFunc_api_Objref.k3 a0 len0 cap0 n4 n5 n6 g0 first0 capt0 h7 I0 n3 b0 b1 x0 h0))
 ((slices_pdqsortCmpFunc_api_Objref.k9 a0 len0 cap0 n4 n5 n6 g0 first0 capt0 h7 n3 I0 x0 b0 b1 h0))
def slices_pdqsortCmpFunc_api_Objref.k11 (n4 : Int) (len0 : Nat) (a0 : Option Addr) (h6 : Hp) (n5 : Int) (n6 : Int) (g0 : Nat) (first0 : Array Value) (capt0 : Array Value) (cap0 : Nat) (I0 : List Value → Hp → Prop) (n3 : Int) (b0 : Bool) (b1 : Bool) (x0 : List Value → Hp → Nat) (h0 : Hp) : Prop :=
 ((0 : Int) ≤ (IntKind.wrap .i64 (n4 - 1))) ∧ ((IntKind.wrap .i64 (n4 - 1)) < (len0 : Int)) ∧ someD a0 (fun p0 => (∃ cs0 : Array Value, (CellsAt h6 (p0.add ((IntKind.wrap .i64 (n4 - 1)).toNat * 36)) 36 cs0) ∧ ((0 : Int) ≤ (IntKind.wrap .i64 ((IntKind.wrap .i64 (n5 - 1)) - (IntKind.wrap .i64 (n6 - n4))))) ∧ ((IntKind.wrap .i64 ((IntKind.wrap .i64 (n5 - 1)) - (IntKind.wrap .i64 (n6 - n4)))) < (len0 : Int)) ∧ someD a0 (fun p1 => (∃ cs1 : Array Value, (CellsAt h6 (p1.add ((IntKind.wrap .i64 ((IntKind.wrap .i64 (n5 - 1)) - (IntKind.wrap .i64 (n6 - n4)))).toNat * 36)) 36 cs1) ∧ trueD (callable P g0) (HC P g0 (Array.mk (Array.toList first0 ++ ((.agg cs0) :: ((.agg cs1) :: (List.append [] (Array.toList capt0)))))) h6 (fun v6 h7 => (∃ n8 : Int, (v6 = (.int .i64 n8)) ∧ (slices_pdqsortCmpFunc_api_Objref.k10 n8 a0 len0 cap0 n4 n5 n6 g0 first0 capt0 h7 I0 n3 b0 b1 x0 h0))))))))
def slices_pdqsortCmpFunc_api_Objref.k12 (n4 : Int) (len0 : Nat) (a0 : Option Addr) (h6 : Hp) (n5 : Int) (n6 : Int) (g0 : Nat) (first0 : Array Value) (capt0 : Array Value) (cap0 : Nat) (I0 : List Value → Hp → Prop) (n3 : Int) (b0 : Bool) (b1 : Bool) (x0 : List Value → Hp → Nat) (h0 : Hp) : Prop :=
 bcase (decide ((0 : Int) < n4))
 ((slices_pdqsortCmpFunc_api_Objref.k11 n4 len0 a0 h6 n5 n6 g0 first0 capt0 cap0 I0 n3 b0 b1 x0 h0))
 ((slices_pdqsortCmpFunc_api_Objref.k9 a0 len0 cap0 n4 n5 n6 g0 first0 capt0 h6 n3 I0 x0 b0 b1 h0))
def slices_pdqsortCmpFunc_api_Objref.k13 (b2 : Bool) (K : Value → Hp → Prop) (h6 : Hp) (n4 : Int) (len0 : Nat) (a0 : Option Addr) (n5 : Int) (n6 : Int) (g0 : Nat) (first0 : Array Value) (capt0 : Array Value) (cap0 : Nat) (I0 : List Value → Hp → Prop) (n3 : Int) (b0 : Bool) (b1 : Bool) (x0 : List Value → Hp → Nat) (h0 : Hp) : Prop :=
 bcase (b2)
 (K (.tuple #[]) h6)
 ((slices_pdqsortCmpFunc_api_Objref.k12 n4 len0 a0 h6 n5 n6 g0 first0 capt0 cap0 I0 n3 b0 b1 x0 h0))
def slices_pdqsortCmpFunc_api_Objref.k14 (a0 : Option Addr) (len0 : Nat) (cap0 : Nat) (n4 : Int) (n5 : Int) (g0 : Nat) (first0 : Array Value) (capt0 : Array Value) (h5 : Hp) (K : Value → Hp → Prop) (n6 : Int) (I0 : List Value → Hp → Prop) (n3 : Int) (b0 : Bool) (b1 : Bool) (x0 : List Value → Hp → Nat) (h0 : Hp) : Prop :=
 HC P slices_partialInsertionSortCmpFunc_api_Objref.n #[.slice a0 len0 cap0, .int .i64 n4, .int .i64 n5, .func (.func g0) first0 capt0] h5 (fun v5 h6 => (∃ b2 : Bool, (v5 = (.bool b2)) ∧ (slices_pdqsortCmpFunc_api_Objref.k13 b2 K h6 n4 len0 a0 n5 n6 g0 first0 capt0 cap0 I0 n3 b0 b1 x0 h0)))
def slices_pdqsortCmpFunc_api_Objref.k15 (b0 : Bool) (a0 : Option Addr) (len0 : Nat) (cap0 : Nat) (n4 : Int) (n5 : Int) (g0 : Nat) (first0 : Array Value) (capt0 : Array Value) (h5 : Hp) (K : Value → Hp → Prop) (n6 : Int) (I0 : List Value → Hp → Prop) (n3 : Int) (b1 : Bool) (x0 : List Value → Hp → Nat) (h0 : Hp) : Prop :=
 bcase (b0)
 ((slices_pdqsortCmpFunc_api_Objref.k14 a0 len0 cap0 n4 n5 g0 first0 capt0 h5 K n6 I0 n3 b0 b1 x0 h0))
 ((slices_pdqsortCmpFunc_api_Objref.k12 n4 len0 a0 h5 n5 n6 g0 first0 capt0 cap0 I0 n3 b0 b1 x0 h0))
def slices_pdqsortCmpFunc_api_Objref.k16 (b1 : Bool) (b0 : Bool) (a0 : Option Addr) (len0 : Nat) (cap0 : Nat) (n4 : Int) (n5 : Int) (g0 : Nat) (first0 : Array Value) (capt0 : Array Value) (h5 : Hp) (K : Value → Hp → Prop) (n6 : Int) (I0 : List Value → Hp → Prop) (n3 : Int) (x0 : List Value → Hp → Nat) (h0 : Hp) : Prop :=
 bcase (b1)
 ((slices_pdqsortCmpFunc_api_Objref.k15 b0 a0 len0 cap0 n4 n5 g0 first0 capt0 h5 K n6 I0 n3 b1 x0 h0))
 ((slices_pdqsortCmpFunc_api_Objref.k12 n4 len0 a0 h5 n5 n6 g0 first0 capt0 cap0 I0 n3 b0 b1 x0 h0))
def slices_pdqsortCmpFunc_api_Objref.k17 (a0 : Option Addr) (len0 : Nat) (cap0 : Nat) (n4 : Int) (n5 : Int) (g0 : Nat) (first0 : Array Value) (capt0 : Array Value) (h4 : Hp) (b1 : Bool) (b0 : Bool) (K : Value → Hp → Prop) (n6 : Int) (I0 : List Value → Hp → Prop) (n3 : Int) (x0 : List Value → Hp → Nat) (h0 : Hp) : Prop :=
 HC P slices_reverseRangeCmpFunc_api_Objref.n #[.slice a0 len0 cap0, .int .i64 n4, .int .i64 n5, .func (.func g0) first0 capt0] h4 (fun v4 h5 => (slices_pdqsortCmpFunc_api_Objref.k16 b1 b0 a0 len0 cap0 n4 n5 g0 first0 capt0 h5 K n6 I0 n3 x0 h0))
def slices_pdqsortCmpFunc_api_Objref.k18 (a0 : Option Addr) (len0 : Nat) (cap0 : Nat) (n4 : Int) (n5 : Int) (n6 : Int) (g0 : Nat) (first0 : Array Value) (capt0 : Array Value) (h13 : Hp) (I0 : List Value → Hp → Prop) (n3 : Int) (b0 : Bool) (b1 : Bool) (x0 : List Value → Hp → Nat) (h0 : Hp) : Prop :=
 HC P slices_partitionEqualCmpFunc_api_Objref.n #[.slice a0 len0 cap0, .int .i64 n4, .int .i64 n5, .int .i64 n6, .func (.func g0) first0 capt0] h13 (fun v13 h14 => (∃ n12 : Int, (v13 = (.int .i64 n12)) ∧ (slices_pdqsortCmpFunc_api_Objref.k2 I0 n3 b0 n12 b1 n5 h14 x0 n4 h0)))
def slices_pdqsortCmpFunc_api_Objref.k19 (a0 : Option Addr) (len0 : Nat) (cap0 : Nat) (n4 : Int) (n5 : Int) (n6 : Int) (g0 : Nat) (first0 : Array Value) (capt0 : Array Value) (h13 : Hp) (n3 : Int) (I0 : List Value → Hp → Prop) (x0 : List Value → Hp → Nat) (b0 : Bool) (b1 : Bool) (h0 : Hp) : Prop :=
 HC P slices_partitionCmpFunc_api_Objref.n #[.slice a0 len0 cap0, .int .i64 n4, .int .i64 n5, .int .i64 n6, .func (.func g0) first0 capt0] h13 (fun v14 h15 => (∃ n13 : Int, (∃ b5 : Bool, (v14 = (.tuple #[.int .i64 n13, .bool b5])) ∧ (slices_pdqsortCmpFunc_api_Objref.k8 n13 n4 n5 a0 len0 cap0 n3 g0 first0 capt0 h15 I0 b5 x0 b0 b1 h0))))
def slices_pdqsortCmpFunc_api_Objref.k20 (n11 : Int) (a0 : Option Addr) (len0 : Nat) (cap0 : Nat) (n4 : Int) (n5 : Int) (n6 : Int) (g0 : Nat) (first0 : Array Value) (capt0 : Array Value) (h13 : Hp) (I0 : List Value → Hp → Prop) (n3 : Int) (b0 : Bool) (b1 : Bool) (x0 : List Value → Hp → Nat) (h0 : Hp) : Prop :=
 bcase ((!(decide (n11 < 0))))
 ((slices_pdqsortCmpFunc_api_Objref.k18 a0 len0 cap0 n4 n5 n6 g0 first0 capt0 h13 I0 n3 b0 b1 x0 h0))
 ((slices_pdqsortCmpFunc_api_Objref.k19 a0 len0 cap0 n4 n5 n6 g0 first0 capt0 h13 n3 I0 x0 b0 b1 h0))
def slices_pdqsortCmpFunc_api_Objref.k21 (n4 : Int) (len0 : Nat) (a0 : Option Addr) (h12 : Hp) (n6 : Int) (g0 : Nat) (first0 : Array Value) (capt0 : Array Value) (cap0 : Nat) (n5 : Int) (I0 : List Value → Hp → Prop) (n3 : Int) (b0 : Bool) (b1 : Bool) (x0 : List Value → Hp → Nat) (h0 : Hp) : Prop :=
 ((0 : Int) ≤ (IntKind.wrap .i64 (n4 - 1))) ∧ ((IntKind.wrap .i64 (n4 - 1)) < (len0 : Int)) ∧ someD a0 (fun p2 => (∃ cs2 : Array Value, (CellsAt h12 (p2.add ((IntKind.wrap .i64 (n4 - 1)).toNat * 36)) 36 cs2) ∧ ((0 : Int) ≤ n6) ∧ (n6 < (len0 : Int)) ∧ someD a0 (fun p3 => (∃ cs3 : Array Value, (CellsAt h12 (p3.add (n6.toNat * 36)) 36 cs3) ∧ trueD (callable P g0) (HC P g0 (Array.mk (Array.toList first0 ++ ((.agg cs2) :: ((.agg cs3) :: (List.append [] (Array.toList capt0)))))) h12 (fun v12 h13 => (∃ n11 : Int, (v12 = (.int .i64 n11)) ∧ (slices_pdqsortCmpFunc_api_Objref.k20 n11 a0 len0 cap0 n4 n5 n6 g0 first0 capt0 h13 I0 n3 b0 b1 x0 h0))))))))
def slices_pdqsortCmpFunc_api_Objref.k22 (n4 : Int) (len0 : Nat) (a0 : Option Addr) (h12 : Hp) (n6 : Int) (g0 : Nat) (first0 : Array Value) (capt0 : Array Value) (cap0 : Nat) (n5 : Int) (I0 : List Value → Hp → Prop) (n3 : Int) (b0 : Bool) (b1 : Bool) (x0 : List Value → Hp → Nat) (h0 : Hp) : Prop :=
 bcase (decide ((0 : Int) < n4))
 ((slices_pdqsortCmpFunc_api_Objref.k21 n4 len0 a0 h12 n6 g0 first0 capt0 cap0 n5 I0 n3 b0 b1 x0 h0))
 ((slices_pdqsortCmpFunc_api_Objref.k19 a0 len0 cap0 n4 n5 n6 g0 first0 capt0 h12 n3 I0 x0 b0 b1 h0))
def slices_pdqsortCmpFunc_api_Objref.k23 (b4 : Bool) (K : Value → Hp → Prop) (h12 : Hp) (n4 : Int) (len0 : Nat) (a0 : Option Addr) (n6 : Int) (g0 : Nat) (first0 : Array Value) (capt0 : Array Value) (cap0 : Nat) (n5 : Int) (I0 : List Value → Hp → Prop) (n3 : Int) (b0 : Bool) (b1 : Bool) (x0 : List Value → Hp → Nat) (h0 : Hp) : Prop :=
 bcase (b4)
 (K (.tuple #[]) h12)
 ((slices_pdqsortCmpFunc_api_Objref.k22 n4 len0 a0 h12 n6 g0 first0 capt0 cap0 n5 I0 n3 b0 b1 x0 h0))
def slices_pdqsortCmpFunc_api_Objref.k24 (a0 : Option Addr) (len0 : Nat) (cap0 : Nat) (n4 : Int) (n5 : Int) (g0 : Nat) (first0 : Array Value) (capt0 : Array Value) (h4 : Hp) (K : Value → Hp → Prop) (n6 : Int) (I0 : List Value → Hp → Prop) (n3 : Int) (b0 : Bool) (b1 : Bool) (x0 : List Value → Hp → Nat) (h0 : Hp) : Prop :=
 HC P slices_partialInsertionSortCmpFunc_api_Objref.n #[.slice a0 len0 cap0, .int .i64 n4, .int .i64 n5, .func (.func g0) first0 capt0] h4 (fun v11 h12 => (∃ b4 : Bool, (v11 = (.bool b4)) ∧ (slices_pdqsortCmpFunc_api_Objref.k23 b4 K h12 n4 len0 a0 n6 g0 first0 capt0 cap0 n5 I0 n3 b0 b1 x0 h0)))
def slices_pdqsortCmpFunc_api_Objref.k25 (n7 : Int) (a0 : Option Addr) (len0 : Nat) (cap0 : Nat) (n4 : Int) (n5 : Int) (g0 : Nat) (first0 : Array Value) (capt0 : Array Value) (h4 : Hp) (K : Value → Hp → Prop) (n6 : Int) (I0 : List Value → Hp → Prop) (n3 : Int) (b0 : Bool) (b1 : Bool) (x0 : List Value → Hp → Nat) (h0 : Hp) : Prop :=
 bcase ((n7 == 1))
 ((slices_pdqsortCmpFunc_api_Objref.k24 a0 len0 cap0 n4 n5 g0 first0 capt0 h4 K n6 I0 n3 b0 b1 x0 h0))
 ((slices_pdqsortCmpFunc_api_Objref.k22 n4 len0 a0 h4 n6 g0 first0 capt0 cap0 n5 I0 n3 b0 b1 x0 h0))
def slices_pdqsortCmpFunc_api_Objref.k26 (b0 : Bool) (n7 : Int) (a0 : Option Addr) (len0 : Nat) (cap0 : Nat) (n4 : Int) (n5 : Int) (g0 : Nat) (first0 : Array Value) (capt0 : Array Value) (h4 : Hp) (K : Value → Hp → Prop) (n6 : Int) (I0 : List Value → Hp → Prop) (n3 : Int) (b1 : Bool) (x0 : List Value → Hp → Nat) (h0 : Hp) : Prop :=
 bcase (b0)
 ((slices_pdqsortCmpFunc_api_Objref.k25 n7 a0 len0 cap0 n4 n5 g0 first0 capt0 h4 K n6 I0 n3 b0 b1 x0 h0))
 ((slices_pdqsortCmpFunc_api_Objref.k22 n4 len0 a0 h4 n6 g0 first0 capt0 cap0 n5 I0 n3 b0 b1 x0 h0))
def slices_pdqsortCmpFunc_api_Objref.k27 (b1 : Bool) (b0 : Bool) (n7 : Int) (a0 : Option Addr) (len0 : Nat) (cap0 : Nat) (n4 : Int) (n5 : Int) (g0 : Nat) (first0 : Array Value) (capt0 : Array Value) (h4 : Hp) (K : Value → Hp → Prop) (n6 : Int) (I0 : List Value → Hp → Prop) (n3 : Int) (x0 : List Value → Hp → Nat) (h0 : Hp) : Prop :=
 bcase (b1)
 ((slices_pdqsortCmpFunc_api_Objref.k26 b0 n7 a0 len0 cap0 n4 n5 g0 first0 capt0 h4 K n6 I0 n3 b1 x0 h0))
 ((slices_pdqsortCmpFunc_api_Objref.k22 n4 len0 a0 h4 n6 g0 first0 capt0 cap0 n5 I0 n3 b0 b1 x0 h0))
def slices_pdqsortCmpFunc_api_Objref.k28 (n7 : Int) (a0 : Option Addr) (len0 : Nat) (cap0 : Nat) (n4 : Int) (n5 : Int) (g0 : Nat) (first0 : Array Value) (capt0 : Array Value) (h4 : Hp) (b1 : Bool) (b0 : Bool) (K : Value → Hp → Prop) (n6 : Int) (I0 : List Value → Hp → Prop) (n3 : Int) (x0 : List Value → Hp → Nat) (h0 : Hp) : Prop :=
 bcase ((n7 == 2))
 ((slices_pdqsortCmpFunc_api_Objref.k17 a0 len0 cap0 n4 n5 g0 first0 capt0 h4 b1 b0 K n6 I0 n3 x0 h0))
 ((slices_pdqsortCmpFunc_api_Objref.k27 b1 b0 n7 a0 len0 cap0 n4 n5 g0 first0 capt0 h4 K n6 I0 n3 x0 h0))
def slices_pdqsortCmpFunc_api_Objref.k29 (a0 : Option Addr) (len0 : Nat) (cap0 : Nat) (n4 : Int) (n5 : Int) (g0 : Nat) (first0 : Array Value) (capt0 : Array Value) (h3 : Hp) (b1 : Bool) (b0 : Bool) (K : Value → Hp → Prop) (I0 : List Value → Hp → Prop) (n3 : Int) (x0 : List Value → Hp → Nat) (h0 : Hp) : Prop :=
 HC P slices_choosePivotCmpFunc_api_Objref.n #[.slice a0 len0 cap0, .int .i64 n4, .int .i64 n5, .func (.func g0) first0 capt0] h3 (fun v3 h4 => (∃ n6 : Int, (∃ n7 : Int, (v3 = (.tuple #[.int .i64 n6, .int .i64 n7])) ∧ (slices_pdqsortCmpFunc_api_Objref.k28 n7 a0 len0 cap0 n4 n5 g0 first0 capt0 h4 b1 b0 K n6 I0 n3 x0 h0))))
def slices_pdqsortCmpFunc_api_Objref.k30 (a0 : Option Addr) (len0 : Nat) (cap0 : Nat) (n4 : Int) (n5 : Int) (g0 : Nat) (first0 : Array Value) (capt0 : Array Value) (h0 : Hp) (b1 : Bool) (b0 : Bool) (K : Value → Hp → Prop) (I0 : List Value → Hp → Prop) (n3 : Int) (x0 : List Value → Hp → Nat) : Prop :=
 HC P slices_breakPatternsCmpFunc_api_Objref.n #[.slice a0 len0 cap0, .int .i64 n4, .int .i64 n5, .func (.func g0) first0 capt0] h0 (fun v2 h3 => (slices_pdqsortCmpFunc_api_Objref.k29 a0 len0 cap0 n4 n5 g0 first0 capt0 h3 b1 b0 K I0 n3 x0 h0))
def slices_pdqsortCmpFunc_api_Objref.k31 (I0 : List Value → Hp → Prop) (n3 : Int) (b0 : Bool) (n17 : Int) (b1 : Bool) (n5 : Int) (h20 : Hp) (x0 : List Value → Hp → Nat) (n4 : Int) (h0 : Hp) : Prop :=
 (I0 [.int .i64 n3, .bool b0, .int .i64 n17, .bool b1, .int .i64 n5] h20) ∧ (x0 [.int .i64 n3, .bool b0, .int .i64 n17, .bool b1, .int .i64 n5] h20) < (x0 [.int .i64 n3, .bool b0, .int .i64 n4, .bool b1, .int .i64 n5] h0)
def slices_pdqsortCmpFunc_api_Objref.k32 (a0 : Option Addr) (len0 : Nat) (cap0 : Nat) (n4 : Int) (n5 : Int) (n14 : Int) (g0 : Nat) (first0 : Array Value) (capt0 : Array Value) (h19 : Hp) (I0 : List Value → Hp → Prop) (n3 : Int) (b0 : Bool) (b1 : Bool) (x0 : List Value → Hp → Nat) (h0 : Hp) : Prop :=
 HC P slices_partitionEqualCmpFunc_api_Objref.n #[.slice a0 len0 cap0, .int .i64 n4, .int .i64 n5, .int .i64 (IntKind.wrap .i64 ((IntKind.wrap .i64 (n5 - 1)) - (IntKind.wrap .i64 (n14 - n4)))), .func (.func g0) first0 capt0] h19 (fun v19 h20 => (∃ n17 : Int, (v19 = (.int .i64 n17)) ∧ (slices_pdqsortCmpFunc_api_Objref.k31 I0 n3 b0 n17 b1 n5 h20 x0 n4 h0)))
def slices_pdqsortCmpFunc_api_Objref.k33 (I0 : List Value → Hp → Prop) (n3 : Int) (b7 : Bool) (n18 : Int) (n5 : Int) (n4 : Int) (h22 : Hp) (x0 : List Value → Hp → Nat) (b0 : Bool) (b1 : Bool) (h0 : Hp) : Prop :=
 (I0 [.int .i64 n3, .bool b7, .int .i64 (IntKind.wrap .i64 (n18 + 1)), .bool (decide ((IntKind.wrap .i64 (Int.tdiv (IntKind.wrap .i64 (n5 - n4)) 8)) ≤ (IntKind.wrap .i64 (n18 - n4)))), .int .i64 n5] h22) ∧ (x0 [.int .i64 n3, .bool b7, .int .i64 (IntKind.wrap .i64 (n18 + 1)), .bool (decide ((IntKind.wrap .i64 (Int.tdiv (IntKind.wrap .i64 (n5 - n4)) 8)) ≤ (IntKind.wrap .i64 (n18 - n4)))), .int .i64 n5] h22) < (x0 [.int .i64 n3, .bool b0, .int .i64 n4, .bool b1, .int .i64 n5] h0)
def slices_pdqsortCmpFunc_api_Objref.k34 (a0 : Option Addr) (len0 : Nat) (cap0 : Nat) (n4 : Int) (n18 : Int) (n3 : Int) (g0 : Nat) (first0 : Array Value) (capt0 : Array Value) (h21 : Hp) (I0 : List Value → Hp → Prop) (b7 : Bool) (n5 : Int) (x0 : List Value → Hp → Nat) (b0 : Bool) (b1 : Bool) (h0 : Hp) : Prop :=
 HC P slices_pdqsortCmpFunc_api_Objref.n #[.slice a0 len0 cap0, .int .i64 n4, .int .i64 n18, .int .i64 n3, .func (.func g0) first0 capt0] h21 (fun v21 h22 => (slices_pdqsortCmpFunc_api_Objref.k33 I0 n3 b7 n18 n5 n4 h22 x0 b0 b1 h0))
def slices_pdqsortCmpFunc_api_Objref.k35 (I0 : List Value → Hp → Prop) (n3 : Int) (b7 : Bool) (n4 : Int) (n5 : Int) (n18 : Int) (h23 : Hp) (x0 : List Value → Hp → Nat) (b0 : Bool) (b1 : Bool) (h0 : Hp) : Prop :=
 (I0 [.int .i64 n3, .bool b7, .int .i64 n4, .bool (decide ((IntKind.wrap .i64 (Int.tdiv (IntKind.wrap .i64 (n5 - n4)) 8)) ≤ (IntKind.wrap .i64 (n5 - n18)))), .int .i64 n18] h23) ∧ (x0 [.int .i64 n3, .bool b7, .int .i64 n4, .bool (decide ((IntKind.wrap .i64 (Int.tdiv (IntKind.wrap .i64 (n5 - n4)) 8)) ≤ (IntKind.wrap .i64 (n5 - n18)))), .int .i64 n18] h23) < (x0 [.int .i64 n3, .bool b0, .int .i64 n4, .bool b1, .int .i64 n5] h0)
def slices_pdqsortCmpFunc_api_Objref.k36 (a0 : Option Addr) (len0 : Nat) (cap0 : Nat) (n18 : Int) (n5 : Int) (n3 : Int) (g0 : Nat) (first0 : Array Value) (capt0 : Array Value) (h21 : Hp) (I0 : List Value → Hp → Prop) (b7 : Bool) (n4 : Int) (x0 : List Value → Hp → Nat) (b0 : Bool) (b1 : Bool) (h0 : Hp) : Prop :=
 HC P slices_pdqsortCmpFunc_api_Objref.n #[.slice a0 len0 cap0, .int .i64 (IntKind.wrap .i64 (n18 + 1)), .int .i64 n5, .int .i64 n3, .func (.func g0) first0 capt0] h21 (fun v22 h23 => (slices_pdqsortCmpFunc_api_Objref.k35 I0 n3 b7 n4 n5 n18 h23 x0 b0 b1 h0))
def slices_pdqsortCmpFunc_api_Objref.k37 (n18 : Int) (n4 : Int) (n5 : Int) (a0 : Option Addr) (len0 : Nat) (cap0 : Nat) (n3 : Int) (g0 : Nat) (first0 : Array Value) (capt0 : Array Value) (h21 : Hp) (I0 : List Value → Hp → Prop) (b7 : Bool) (x0 : List Value → Hp → Nat) (b0 : Bool) (b1 : Bool) (h0 : Hp) : Prop :=
 ((8 : Int) ≠ 0) ∧ bcase (decide ((IntKind.wrap .i64 (n18 - n4)) < (IntKind.wrap .i64 (n5 - n18))))
 ((slices_pdqsortCmpFunc_api_Objref.k34 a0 len0 cap0 n4 n18 n3 g0 first0 capt0 h21 I0 b7 n5 x0 b0 b1 h0))
 ((slices_pdqsortCmpFunc_api_Objref.k36 a0 len0 cap0 n18 n5 n3 g0 first0 capt0 h21 I0 b7 n4 x0 b0 b1 h0))
def slices_pdqsortCmpFunc_api_Objref.k38 (a0 : Option Addr) (len0 : Nat) (cap0 : Nat) (n4 : Int) (n5 : Int) (n14 : Int) (g0 : Nat) (first0 : Array Value) (capt0 : Array Value) (h19 : Hp) (n3 : Int) (I0 : List Value → Hp → Prop) (x0 : List Value → Hp → Nat) (b0 : Bool) (b1 : Bool) (h0 : Hp) : Prop :=
 HC P slices_partitionCmpFunc_api_Objref.n #[.slice a0 len0 cap0, .int .i64 n4, .int .i64 n5, .int .i64 (IntKind.wrap .i64 ((IntKind.wrap .i64 (n5 - 1)) - (IntKind.wrap .i64 (n14 - n4)))), .func (.func g0) first0 capt0] h19 (fun v20 h21 => (∃ n18 : Int, (∃ b7 : Bool, (v20 = (.tuple #[.int .i64 n18, .bool b7])) ∧ (slices_pdqsortCmpFunc_api_Objref.k37 n18 n4 n5 a0 len0 cap0 n3 g0 first0 capt0 h21 I0 b7 x0 b0 b1 h0))))
def slices_pdqsortCmpFunc_api_Objref.k39 (n16 : Int) (a0 : Option Addr) (len0 : Nat) (cap0 : Nat) (n4 : Int) (n5 : Int) (n14 : Int) (g0 : Nat) (first0 : Array Value) (capt0 : Array Value) (h19 : Hp) (I0 : List Value → Hp → Prop) (n3 : Int) (b0 : Bool) (b1 : Bool) (x0 : List Value → Hp → Nat) (h0 : Hp) : Prop :=
 bcase ((!(decide (n16 < 0))))
 ((slices_pdqsortCmpFunc_api_Objref.k32 a0 len0 cap0 n4 n5 n14 g0 first0 capt0 h19 I0 n3 b0 b1 x0 h0))
 ((slices_pdqsortCmpFunc_api_Objref.k38 a0 len0 cap0 n4 n5 n14 g0 first0 capt0 h19 n3 I0 x0 b0 b1 h0))
def slices_pdqsortCmpFunc_api_Objref.k40 (n4 : Int) (len0 : Nat) (a0 : Option Addr) (h18 : Hp) (n5 : Int) (n14 : Int) (g0 : Nat) (first0 : Array Value) (capt0 : Array Value) (cap0 : Nat) (I0 : List Value → Hp → Prop) (n3 : Int) (b0 : Bool) (b1 : Bool) (x0 : List Value → Hp → Nat) (h0 : Hp) : Prop :=
 ((0 : Int) ≤ (IntKind.wrap .i64 (n4 - 1))) ∧ ((IntKind.wrap .i64 (n4 - 1)) < (len0 : Int)) ∧ someD a0 (fun p4 => (∃ cs4 : Array Value, (CellsAt h18 (p4.add ((IntKind.wrap .i64 (n4 - 1)).toNat * 36)) 36 cs4) ∧ ((0 : Int) ≤ (IntKind.wrap .i64 ((IntKind.wrap .i64 (n5 - 1)) - (IntKind.wrap .i64 (n14 - n4))))) ∧ ((IntKind.wrap .i64 ((IntKind.wrap .i64 (n5 - 1)) - (IntKind.wrap .i64 (n14 - n4)))) < (len0 : Int)) ∧ someD a0 (fun p5 => (∃ cs5 : Array Value, (CellsAt h18 (p5.add ((IntKind.wrap .i64 ((IntKind.wrap .i64 (n5 - 1)) - (IntKind.wrap .i64 (n14 - n4)))).toNat * 36)) 36 cs5) ∧ trueD (callable P g0) (HC P g0 (Array.mk (Array.toList first0 ++ ((.agg cs4) :: ((.agg cs5) :: (List.append [] (Array.toList capt0)))))) h18 (fun v18 h19 => (∃ n16 : Int, (v18 = (.int .i64 n16)) ∧ (slices_pdqsortCmpFunc_api_Objref.k39 n16 a0 len0 cap0 n4 n5 n14 g0 first0 capt0 h19 I0 n3 b0 b1 x0 h0))))))))
def slices_pdqsortCmpFunc_api_Objref.k41 (n4 : Int) (len0 : Nat) (a0 : Option Addr) (h18 : Hp) (n5 : Int) (n14 : Int) (g0 : Nat) (first0 : Array Value) (capt0 : Array Value) (cap0 : Nat) (I0 : List Value → Hp → Prop) (n3 : Int) (b0 : Bool) (b1 : Bool) (x0 : List Value → Hp → Nat) (h0 : Hp) : Prop :=
 bcase (decide ((0 : Int) < n4))
 ((slices_pdqsortCmpFunc_api_Objref.k40 n4 len0 a0 h18 n5 n14 g0 first0 capt0 cap0 I0 n3 b0 b1 x0 h0))
 ((slices_pdqsortCmpFunc_api_Objref.k38 a0 len0 cap0 n4 n5 n14 g0 first0 capt0 h18 n3 I0 x0 b0 b1 h0))
def slices_pdqsortCmpFunc_api_Objref.k42 (b6 : Bool) (K : Value → Hp → Prop) (h18 : Hp) (n4 : Int) (len0 : Nat) (a0 : Option Addr) (n5 : Int) (n14 : Int) (g0 : Nat) (first0 : Array Value) (capt0 : Array Value) (cap0 : Nat) (I0 : List Value → Hp → Prop) (n3 : Int) (b0 : Bool) (b1 : Bool) (x0 : List Value → Hp → Nat) (h0 : Hp) : Prop :=
 bcase (b6)
 (K (.tuple #[]) h18)
 ((slices_pdqsortCmpFunc_api_Objref.k41 n4 len0 a0 h18 n5 n14 g0 first0 capt0 cap0 I0 n3 b0 b1 x0 h0))
def slices_pdqsortCmpFunc_api_Objref.k43 (a0 : Option Addr) (len0 : Nat) (cap0 : Nat) (n4 : Int) (n5 : Int) (g0 : Nat) (first0 : Array Value) (capt0 : Array Value) (h17 : Hp) (K : Value → Hp → Prop) (n14 : Int) (I0 : List Value → Hp → Prop) (n3 : Int) (b0 : Bool) (b1 : Bool) (x0 : List Value → Hp → Nat) (h0 : Hp) : Prop :=
 HC P slices_partialInsertionSortCmpFunc_api_Objref.n #[.slice a0 len0 cap0, .int .i64 n4, .int .i64 n5, .func (.func g0) first0 capt0] h17 (fun v17 h18 => (∃ b6 : Bool, (v17 = (.bool b6)) ∧ (slices_pdqsortCmpFunc_api_Objref.k42 b6 K h18 n4 len0 a0 n5 n14 g0 first0 capt0 cap0 I0 n3 b0 b1 x0 h0)))
def slices_pdqsortCmpFunc_api_Objref.k44 (b0 : Bool) (a0 : Option Addr) (len0 : Nat) (cap0 : Nat) (n4 : Int) (n5 : Int) (g0 : Nat) (first0 : Array Value) (capt0 : Array Value) (h17 : Hp) (K : Value → Hp → Prop) (n14 : Int) (I0 : List Value → Hp → Prop) (n3 : Int) (b1 : Bool) (x0 : List Value → Hp → Nat) (h0 : Hp) : Prop :=
 bcase (b0)
 ((slices_pdqsortCmpFunc_api_Objref.k43 a0 len0 cap0 n4 n5 g0 first0 capt0 h17 K n14 I0 n3 b0 b1 x0 h0))
 ((slices_pdqsortCmpFunc_api_Objref.k41 n4 len0 a0 h17 n5 n14 g0 first0 capt0 cap0 I0 n3 b0 b1 x0 h0))
def slices_pdqsortCmpFunc_api_Objref.k45 (b1 : Bool) (b0 : Bool) (a0 : Option Addr) (len0 : Nat) (cap0 : Nat) (n4 : Int) (n5 : Int) (g0 : Nat) (first0 : Array Value) (capt0 : Array Value) (h17 : Hp) (K : Value → Hp → Prop) (n14 : Int) (I0 : List Value → Hp → Prop) (n3 : Int) (x0 : List Value → Hp → Nat) (h0 : Hp) : Prop :=
 bcase (b1)
 ((slices_pdqsortCmpFunc_api_Objref.k44 b0 a0 len0 cap0 n4 n5 g0 first0 capt0 h17 K n14 I0 n3 b1 x0 h0))
 ((slices_pdqsortCmpFunc_api_Objref.k41 n4 len0 a0 h17 n5 n14 g0 first0 capt0 cap0 I0 n3 b0 b1 x0 h0))
def slices_pdqsortCmpFunc_api_Objref.k46 (a0 : Option Addr) (len0 : Nat) (cap0 : Nat) (n4 : Int) (n5 : Int) (g0 : Nat) (first0 : Array Value) (capt0 : Array Value) (h16 : Hp) (b1 : Bool) (b0 : Bool) (K : Value → Hp → Prop) (n14 : Int) (I0 : List Value → Hp → Prop) (n3 : Int) (x0 : List Value → Hp → Nat) (h0 : Hp) : Prop :=
 HC P slices_reverseRangeCmpFunc_api_Objref.n #[.slice a0 len0 cap0, .int .i64 n4, .int .i64 n5, .func (.func g0) first0 capt0] h16 (fun v16 h17 => (slices_pdqsortCmpFunc_api_Objref.k45 b1 b0 a0 len0 cap0 n4 n5 g0 first0 capt0 h17 K n14 I0 n3 x0 h0))
def slices_pdqsortCmpFunc_api_Objref.k47 (a0 : Option Addr) (len0 : Nat) (cap0 : Nat) (n4 : Int) (n5 : Int) (n14 : Int) (g0 : Nat) (first0 : Array Value) (capt0 : Array Value) (h25 : Hp) (I0 : List Value → Hp → Prop) (n3 : Int) (b0 : Bool) (b1 : Bool) (x0 : List Value → Hp → Nat) (h0 : Hp) : Prop :=
 HC P slices_partitionEqualCmpFunc_api_Objref.n #[.slice a0 len0 cap0, .int .i64 n4, .int .i64 n5, .int .i64 n14, .func (.func g0) first0 capt0] h25 (fun v25 h26 => (∃ n20 : Int, (v25 = (.int .i64 n20)) ∧ (slices_pdqsortCmpFunc_api_Objref.k31 I0 n3 b0 n20 b1 n5 h26 x0 n4 h0)))
def slices_pdqsortCmpFunc_api_Objref.k48 (a0 : Option Addr) (len0 : Nat) (cap0 : Nat) (n4 : Int) (n5 : Int) (n14 : Int) (g0 : Nat) (first0 : Array Value) (capt0 : Array Value) (h25 : Hp) (n3 : Int) (I0 : List Value → Hp → Prop) (x0 : List Value → Hp → Nat) (b0 : Bool) (b1 : Bool) (h0 : Hp) : Prop :=
 HC P slices_partitionCmpFunc_api_Objref.n #[.slice a0 len0 cap0, .int .i64 n4, .int .i64 n5, .int .i64 n14, .func (.func g0) first0 capt0] h25 (fun v26 h27 => (∃ n21 : Int, (∃ b9 : Bool, (v26 = (.tuple #[.int .i64 n21, .bool b9])) ∧ (slices_pdqsortCmpFunc_api_Objref.k37 n21 n4 n5 a0 len0 cap0 n3 g0 first0 capt0 h27 I0 b9 x0 b0 b1 h0))))
def slices_pdqsortCmpFunc_api_Objref.k49 (n19 : Int) (a0 : Option Addr) (len0 : Nat) (cap0 : Nat) (n4 : Int) (n5 : Int) (n14 : Int) (g0 : Nat) (first0 : Array Value) (capt0 : Array Value) (h25 : Hp) (I0 : List Value → Hp → Prop) (n3 : Int) (b0 : Bool) (b1 : Bool) (x0 : List Value → Hp → Nat) (h0 : Hp) : Prop :=
 bcase ((!(decide (n19 < 0))))
 ((slices_pdqsortCmpFunc_api_Objref.k47 a0 len0 cap0 n4 n5 n14 g0 first0 capt0 h25 I0 n3 b0 b1 x0 h0))
 ((slices_pdqsortCmpFunc_api_Objref.k48 a0 len0 cap0 n4 n5 n14 g0 first0 capt0 h25 n3 I0 x0 b0 b1 h0))
def slices_pdqsortCmpFunc_api_Objref.k50 (n4 : Int) (len0 : Nat) (a0 : Option Addr) (h24 : Hp) (n14 : Int) (g0 : Nat) (first0 : Array Value) (capt0 : Array Value) (cap0 : Nat) (n5 : Int) (I0 : List Value → Hp → Prop) (n3 : Int) (b0 : Bool) (b1 : Bool) (x0 : List Value → Hp → Nat) (h0 : Hp) : Prop :=
 ((0 : Int) ≤ (IntKind.wrap .i64 (n4 - 1))) ∧ ((IntKind.wrap .i64 (n4 - 1)) < (len0 : Int)) ∧ someD a0 (fun p6 => (∃ cs6 : Array Value, (CellsAt h24 (p6.add ((IntKind.wrap .i64 (n4 - 1)).toNat * 36)) 36 cs6) ∧ ((0 : Int) ≤ n14) ∧ (n14 < (len0 : Int)) ∧ someD a0 (fun p7 => (∃ cs7 : Array Value, (CellsAt h24 (p7.add (n14.toNat * 36)) 36 cs7) ∧ trueD (callable P g0) (HC P g0 (Array.mk (Array.toList first0 ++ ((.agg cs6) :: ((.agg cs7) :: (List.append [] (Array.toList capt0)))))) h24 (fun v24 h25 => (∃ n19 : Int, (v24 = (.int .i64 n19)) ∧ (slices_pdqsortCmpFunc_api_Objref.k49 n19 a0 len0 cap0 n4 n5 n14 g0 first0 capt0 h25 I0 n3 b0 b1 x0 h0))))))))
def slices_pdqsortCmpFunc_api_Objref.k51 (n4 : Int) (len0 : Nat) (a0 : Option Addr) (h24 : Hp) (n14 : Int) (g0 : Nat) (first0 : Array Value) (capt0 : Array Value) (cap0 : Nat) (n5 : Int) (I0 : List Value → Hp → Prop) (n3 : Int) (b0 : Bool) (b1 : Bool) (x0 : List Value → Hp → Nat) (h0 : Hp) : Prop :=
 bcase (decide ((0 : Int) < n4))
 ((slices_pdqsortCmpFunc_api_Objref.k50 n4 len0 a0 h24 n14 g0 first0 capt0 cap0 n5 I0 n3 b0 b1 x0 h0))
 ((slices_pdqsortCmpFunc_api_Objref.k48 a0 len0 cap0 n4 n5 n14 g0 first0 capt0 h24 n3 I0 x0 b0 b1 h0))
def slices_pdqsortCmpFunc_api_Objref.k52 (b8 : Bool) (K : Value → Hp → Prop) (h24 : Hp) (n4 : Int) (len0 : Nat) (a0 : Option Addr) (n14 : Int) (g0 : Nat) (first0 : Array Value) (capt0 : Array Value) (cap0 : Nat) (n5 : Int) (I0 : List Value → Hp → Prop) (n3 : Int) (b0 : Bool) (b1 : Bool) (x0 : List Value → Hp → Nat) (h0 : Hp) : Prop :=
 bcase (b8)
 (K (.tuple #[]) h24)
 ((slices_pdqsortCmpFunc_api_Objref.k51 n4 len0 a0 h24 n14 g0 first0 capt0 cap0 n5 I0 n3 b0 b1 x0 h0))
def slices_pdqsortCmpFunc_api_Objref.k53 (a0 : Option Addr) (len0 : Nat) (cap0 : Nat) (n4 : Int) (n5 : Int) (g0 : Nat) (first0 : Array Value) (capt0 : Array Value) (h16 : Hp) (K : Value → Hp → Prop) (n14 : Int) (I0 : List Value → Hp → Prop) (n3 : Int) (b0 : Bool) (b1 : Bool) (x0 : List Value → Hp → Nat) (h0 : Hp) : Prop :=
 HC P slices_partialInsertionSortCmpFunc_api_Objref.n #[.slice a0 len0 cap0, .int .i64 n4, .int .i64 n5, .func (.func g0) first0 capt0] h16 (fun v23 h24 => (∃ b8 : Bool, (v23 = (.bool b8)) ∧ (slices_pdqsortCmpFunc_api_Objref.k52 b8 K h24 n4 len0 a0 n14 g0 first0 capt0 cap0 n5 I0 n3 b0 b1 x0 h0)))
def slices_pdqsortCmpFunc_api_Objref.k54 (n15 : Int) (a0 : Option Addr) (len0 : Nat) (cap0 : Nat) (n4 : Int) (n5 : Int) (g0 : Nat) (first0 : Array Value) (capt0 : Array Value) (h16 : Hp) (K : Value → Hp → Prop) (n14 : Int) (I0 : List Value → Hp → Prop) (n3 : Int) (b0 : Bool) (b1 : Bool) (x0 : List Value → Hp → Nat) (h0 : Hp) : Prop :=
 bcase ((n15 == 1))
 ((slices_pdqsortCmpFunc_api_Objref.k53 a0 len0 cap0 n4 n5 g0 first0 capt0 h16 K n14 I0 n3 b0 b1 x0 h0))
 ((slices_pdqsortCmpFunc_api_Objref.k51 n4 len0 a0 h16 n14 g0 first0 capt0 cap0 n5 I0 n3 b0 b1 x0 h0))
def slices_pdqsortCmpFunc_api_Objref.k55 (b0 : Bool) (n15 : Int) (a0 : Option Addr) (len0 : Nat) (cap0 : Nat) (n4 : Int) (n5 : Int) (g0 : Nat) (first0 : Array Value) (capt0 : Array Value) (h16 : Hp) (K : Value → Hp → Prop) (n14 : Int) (I0 : List Value → Hp → Prop) (n3 : Int) (b1 : Bool) (x0 : List Value → Hp → Nat) (h0 : Hp) : Prop :=
 bcase (b0)
 ((slices_pdqsortCmpFunc_api_Objref.k54 n15 a0 len0 cap0 n4 n5 g0 first0 capt0 h16 K n14 I0 n3 b0 b1 x0 h0))
 ((slices_pdqsortCmpFunc_api_Objref.k51 n4 len0 a0 h16 n14 g0 first0 capt0 cap0 n5 I0 n3 b0 b1 x0 h0))
def slices_pdqsortCmpFunc_api_Objref.k56 (b1 : Bool) (b0 : Bool) (n15 : Int) (a0 : Option Addr) (len0 : Nat) (cap0 : Nat) (n4 : Int) (n5 : Int) (g0 : Nat) (first0 : Array Value) (capt0 : Array Value) (h16 : Hp) (K : Value → Hp → Prop) (n14 : Int) (I0 : List Value → Hp → Prop) (n3 : Int) (x0 : List Value → Hp → Nat) (h0 : Hp) : Prop :=
 bcase (b1)
 ((slices_pdqsortCmpFunc_api_Objref.k55 b0 n15 a0 len0 cap0 n4 n5 g0 first0 capt0 h16 K n14 I0 n3 b1 x0 h0))
 ((slices_pdqsortCmpFunc_api_Objref.k51 n4 len0 a0 h16 n14 g0 first0 capt0 cap0 n5 I0 n3 b0 b1 x0 h0))
def slices_pdqsortCmpFunc_api_Objref.k57 (n15 : Int) (a0 : Option Addr) (len0 : Nat) (cap0 : Nat) (n4 : Int) (n5 : Int) (g0 : Nat) (first0 : Array Value) (capt0 : Array Value) (h16 : Hp) (b1 : Bool) (b0 : Bool) (K : Value → Hp → Prop) (n14 : Int) (I0 : List Value → Hp → Prop) (n3 : Int) (x0 : List Value → Hp → Nat) (h0 : Hp) : Prop :=
 bcase ((n15 == 2))
 ((slices_pdqsortCmpFunc_api_Objref.k46 a0 len0 cap0 n4 n5 g0 first0 capt0 h16 b1 b0 K n14 I0 n3 x0 h0))
 ((slices_pdqsortCmpFunc_api_Objref.k56 b1 b0 n15 a0 len0 cap0 n4 n5 g0 first0 capt0 h16 K n14 I0 n3 x0 h0))
def slices_pdqsortCmpFunc_api_Objref.k58 (a0 : Option Addr) (len0 : Nat) (cap0 : Nat) (n4 : Int) (n5 : Int) (g0 : Nat) (first0 : Array Value) (capt0 : Array Value) (h0 : Hp) (b1 : Bool) (b0 : Bool) (K : Value → Hp → Prop) (I0 : List Value → Hp → Prop) (n3 : Int) (x0 : List Value → Hp → Nat) : Prop :=
 HC P slices_choosePivotCmpFunc_api_Objref.n #[.slice a0 len0 cap0, .int .i64 n4, .int .i64 n5, .func (.func g0) first0 capt0] h0 (fun v15 h16 => (∃ n14 : Int, (∃ n15 : Int, (v15 = (.tuple #[.int .i64 n14, .int .i64 n15])) ∧ (slices_pdqsortCmpFunc_api_Objref.k57 n15 a0 len0 cap0 n4 n5 g0 first0 capt0 h16 b1 b0 K n14 I0 n3 x0 h0))))
def slices_pdqsortCmpFunc_api_Objref.k59 (b1 : Bool) (a0 : Option Addr) (len0 : Nat) (cap0 : Nat) (n4 : Int) (n5 : Int) (g0 : Nat) (first0 : Array Value) (capt0 : Array Value) (h0 : Hp) (b0 : Bool) (K : Value → Hp → Prop) (I0 : List Value → Hp → Prop) (n3 : Int) (x0 : List Value → Hp → Nat) : Prop :=
 bcase ((!b1))
 ((slices_pdqsortCmpFunc_api_Objref.k30 a0 len0 cap0 n4 n5 g0 first0 capt0 h0 b1 b0 K I0 n3 x0))
 ((slices_pdqsortCmpFunc_api_Objref.k58 a0 len0 cap0 n4 n5 g0 first0 capt0 h0 b1 b0 K I0 n3 x0))
def slices_pdqsortCmpFunc_api_Objref.k60 (n3 : Int) (a0 : Option Addr) (len0 : Nat) (cap0 : Nat) (n4 : Int) (n5 : Int) (g0 : Nat) (first0 : Array Value) (capt0 : Array Value) (h0 : Hp) (K : Value → Hp → Prop) (b1 : Bool) (b0 : Bool) (I0 : List Value → Hp → Prop) (x0 : List Value → Hp → Nat) : Prop :=
 bcase ((n3 == 0))
 ((slices_pdqsortCmpFunc_api_Objref.k1 a0 len0 cap0 n4 n5 g0 first0 capt0 h0 K))
 ((slices_pdqsortCmpFunc_api_Objref.k59 b1 a0 len0 cap0 n4 n5 g0 first0 capt0 h0 b0 K I0 n3 x0))
def slices_pdqsortCmpFunc_api_Objref (a0 : Option Addr) (len0 : Nat) (cap0 : Nat) (n0 : Int) (n1 : Int) (n2 : Int) (g0 : Nat) (first0 : Array Value) (capt0 : Array Value) (K : Value → Hp → Prop) (h : Hp) : Prop :=
 (∃ I0 : List Value → Hp → Prop, (∃ x0 : List Value → Hp → Nat, (I0 [.int .i64 n2, .bool Bool.true, .int .i64 n0, .bool Bool.true, .int .i64 n1] h) ∧ (∀ h0 : Hp, (∀ n3 : Int, (∀ b0 : Bool, (∀ n4 : Int, (∀ b1 : Bool, (∀ n5 : Int, (I0 [.int .i64 n3, .bool b0, .int .i64 n4, .bool b1, .int .i64 n5] h0 → bcase (decide ((IntKind.wrap .i64 (n5 - n4)) ≤ 12))
 ((slices_pdqsortCmpFunc_api_Objref.k0 a0 len0 cap0 n4 n5 g0 first0 capt0 h0 K))
 ((slices_pdqsortCmpFunc_api_Objref.k60 n3 a0 len0 cap0 n4 n5 g0 first0 capt0 h0 K b1 b0 I0 x0)))))))))))
theorem slices_pdqsortCmpFunc_api_Objref.hc {a0 : Option Addr} {len0 : Nat} {cap0 : Nat} {n0 : Int} {n1 : Int} {n2 : Int} {g0 : Nat} {first0 : Array Value} {capt0 : Array Value} {K : Value → Hp → Prop} {h : Hp} (hh : slices_pdqsortCmpFunc_api_Objref a0 len0 cap0 n0 n1 n2 g0 first0 capt0 K h) : HC P slices_pdqsortCmpFunc_api_Objref.n #[.slice a0 len0 cap0, .int .i64 n0, .int .i64 n1, .int .i64 n2, .func (.func g0) first0 capt0] h K :=
  HC_of_den (fn := Go.Proofs.Try.f55) (args := [.slice a0 len0 cap0, .int .i64 n0, .int .i64 n1, .int .i64 n2, .func (.func g0) first0 capt0]) Go.Proofs.Try.func55 rfl (Nat.le_of_ble_eq_true (by kernel_rfl)) (den_cast hh (by kernel_rfl))

def slices_insertionSortCmpFunc_api_Objref.k0 (n3 : Int) (len0 : Nat) (a0 : Option Addr) (h2 : Hp) (I1 : List Value → Hp → Prop) (x1 : List Value → Hp → Nat) (h1 : Hp) : Prop :=
 ((0 : Int) ≤ (IntKind.wrap .i64 (n3 - 1))) ∧ ((IntKind.wrap .i64 (n3 - 1)) < (len0 : Int)) ∧ someD a0 (fun p2 => (∃ cs2 : Array Value, (CellsAt h2 (p2.add ((IntKind.wrap .i64 (n3 - 1)).toNat * 36)) 36 cs2) ∧ ((0 : Int) ≤ n3) ∧ (n3 < (len0 : Int)) ∧ someD a0 (fun p3 => (∃ cs3 : Array Value, (CellsAt h2 (p3.add (n3.toNat * 36)) 36 cs3) ∧ ((0 : Int) ≤ n3) ∧ (n3 < (len0 : Int)) ∧ someD a0 (fun p4 => (cs2.size = 36) ∧ (∀ v1 : Value, (v1 ∈ (Array.toList cs2 : List Value) → (Den.cellish v1) = Bool.true)) ∧ (Free h2 (p4.add (n3.toNat * 36)) 36) ∧ ((0 : Int) ≤ (IntKind.wrap .i64 (n3 - 1))) ∧ ((IntKind.wrap .i64 (n3 - 1)) < (len0 : Int)) ∧ someD a0 (fun p5 => (cs3.size = 36) ∧ (∀ v2 : Value, (v2 ∈ (Array.toList cs3 : List Value) → (Den.cellish v2) = Bool.true)) ∧ (Free (h2.setCells (p4.add (n3.toNat * 36)) cs2) (p5.add ((IntKind.wrap .i64 (n3 - 1)).toNat * 36)) 36) ∧ (I1 [.int .i64 (IntKind.wrap .i64 (n3 - 1))] ((h2.setCells (p4.add (n3.toNat * 36)) cs2).setCells (p5.add ((IntKind.wrap .i64 (n3 - 1)).toNat * 36)) cs3)) ∧ (x1 [.int .i64 (IntKind.wrap .i64 (n3 - 1))] ((h2.setCells (p4.add (n3.toNat * 36)) cs2).setCells (p5.add ((IntKind.wrap .i64 (n3 - 1)).toNat * 36)) cs3)) < (x1 [.int .i64 n3] h1)))))))
def slices_insertionSortCmpFunc_api_Objref.k1 (I0 : List Value → Hp → Prop) (n2 : Int) (h2 : Hp) (x0 : List Value → Hp → Nat) (h0 : Hp) : Prop :=
 (I0 [.int .i64 (IntKind.wrap .i64 (n2 + 1))] h2) ∧ (x0 [.int .i64 (IntKind.wrap .i64 (n2 + 1))] h2) < (x0 [.int .i64 n2] h0)
def slices_insertionSortCmpFunc_api_Objref.k2 (n4 : Int) (n3 : Int) (len0 : Nat) (a0 : Option Addr) (h2 : Hp) (I1 : List Value → Hp → Prop) (x1 : List Value → Hp → Nat) (h1 : Hp) (I0 : List Value → Hp → Prop) (n2 : Int) (x0 : List Value → Hp → Nat) (h0 : Hp) : Prop :=
 bcase (decide (n4 < 0))
 ((slices_insertionSortCmpFunc_api_Objref.k0 n3 len0 a0 h2 I1 x1 h1))
 ((slices_insertionSortCmpFunc_api_Objref.k1 I0 n2 h2 x0 h0))
def slices_insertionSortCmpFunc_api_Objref.k3 (n3 : Int) (len0 : Nat) (a0 : Option Addr) (h1 : Hp) (g0 : Nat) (first0 : Array Value) (capt0 : Array Value) (I1 : List Value → Hp → Prop) (x1 : List Value → Hp → Nat) (I0 : List Value → Hp → Prop) (n2 : Int) (x0 : List Value → Hp → Nat) (h0 : Hp) : Prop :=
 ((0 : Int) ≤ n3) ∧ (n3 < (len0 : Int)) ∧ someD a0 (fun p0 => (∃ cs0 : Array Value, (CellsAt h1 (p0.add (n3.toNat * 36)) 36 cs0) ∧ ((0 : Int) ≤ (IntKind.wrap .i64 (n3 - 1))) ∧ ((IntKind.wrap .i64 (n3 - 1)) < (len0 : Int)) ∧ someD a0 (fun p1 => (∃ cs1 : Array Value, (CellsAt h1 (p1.add ((IntKind.wrap .i64 (n3 - 1)).toNat * 36)) 36 cs1) ∧ trueD (callable P g0) (HC P g0 (Array.mk (Array.toList first0 ++ ((.agg cs0) :: ((.agg cs1) :: (List.append [] (Array.toList capt0)))))) h1 (fun v0 h2 => (∃ n4 : Int, (v0 = (.int .i64 n4)) ∧ (slices_insertionSortCmpFunc_api_Objref.k2 n4 n3 len0 a0 h2 I1 x1 h1 I0 n2 x0 h0))))))))
def slices_insertionSortCmpFunc_api_Objref.k4 (n2 : Int) (h0 : Hp) (n0 : Int) (len0 : Nat) (a0 : Option Addr) (g0 : Nat) (first0 : Array Value) (capt0 : Array Value) (I0 : List Value → Hp → Prop) (x0 : List Value → Hp → Nat) : Prop :=
 (∃ I1 : List Value → Hp → Prop, (∃ x1 : List Value → Hp → Nat, (I1 [.int .i64 n2] h0) ∧ (∀ h1 : Hp, (∀ n3 : Int, (I1 [.int .i64 n3] h1 → bcase (decide (n0 < n3))
 ((slices_insertionSortCmpFunc_api_Objref.k3 n3 len0 a0 h1 g0 first0 capt0 I1 x1 I0 n2 x0 h0))
 ((slices_insertionSortCmpFunc_api_Objref.k1 I0 n2 h1 x0 h0)))))))
def slices_insertionSortCmpFunc_api_Objref (a0 : Option Addr) (len0 : Nat) (cap0 : Nat) (n0 : Int) (n1 : Int) (g0 : Nat) (first0 : Array Value) (capt0 : Array Value) (K : Value → Hp → Prop) (h : Hp) : Prop :=
 (∃ I0 : List Value → Hp → Prop, (∃ x0 : List Value → Hp → Nat, (I0 [.int .i64 (IntKind.wrap .i64 (n0 + 1))] h) ∧ (∀ h0 : Hp, (∀ n2 : Int, (I0 [.int .i64 n2] h0 → bcase (decide (n2 < n1))
 ((slices_insertionSortCmpFunc_api_Objref.k4 n2 h0 n0 len0 a0 g0 first0 capt0 I0 x0))
 (K (.tuple #[]) h0))))))
theorem slices_insertionSortCmpFunc_api_Objref.hc {a0 : Option Addr} {len0 : Nat} {cap0 : Nat} {n0 : Int} {n1 : Int} {g0 : Nat} {first0 : Array Value} {capt0 : Array Value} {K : Value → Hp → Prop} {h : Hp} (hh : slices_insertionSortCmpFunc_api_Objref a0 len0 cap0 n0 n1 g0 first0 capt0 K h) : HC P slices_insertionSortCmpFunc_api_Objref.n #[.slice a0 len0 cap0, .int .i64 n0, .int .i64 n1, .func (.func g0) first0 capt0] h K :=
  HC_of_den (fn := Go.Proofs.Try.f69) (args := [.slice a0 len0 cap0, .int .i64 n0, .int .i64 n1, .func (.func g0) first0 capt0]) Go.Proofs.Try.func69 rfl (Nat.le_of_ble_eq_true (by kernel_rfl)) (den_cast hh (by kernel_rfl))

def slices_heapSortCmpFunc_api_Objref.k0 (I0 : List Value → Hp → Prop) (n2 : Int) (h1 : Hp) (x0 : List Value → Hp → Nat) (h0 : Hp) : Prop :=
 (I0 [.int .i64 (IntKind.wrap .i64 (n2 - 1))] h1) ∧ (x0 [.int .i64 (IntKind.wrap .i64 (n2 - 1))] h1) < (x0 [.int .i64 n2] h0)
def slices_heapSortCmpFunc_api_Objref.k1 (a0 : Option Addr) (len0 : Nat) (cap0 : Nat) (n2 : Int) (n1 : Int) (n0 : Int) (g0 : Nat) (first0 : Array Value) (capt0 : Array Value) (h0 : Hp) (I0 : List Value → Hp → Prop) (x0 : List Value → Hp → Nat) : Prop :=
 HC P slices_siftDownCmpFunc_api_Objref.n #[.slice a0 len0 cap0, .int .i64 n2, .int .i64 (IntKind.wrap .i64 (n1 - n0)), .int .i64 n0, .func (.func g0) first0 capt0] h0 (fun v0 h1 => (slices_heapSortCmpFunc_api_Objref.k0 I0 n2 h1 x0 h0))
def slices_heapSortCmpFunc_api_Objref.k2 (n0 : Int) (n3 : Int) (len0 : Nat) (a0 : Option Addr) (h2 : Hp) (cap0 : Nat) (g0 : Nat) (first0 : Array Value) (capt0 : Array Value) (I1 : List Value → Hp → Prop) (x1 : List Value → Hp → Nat) : Prop :=
 ((0 : Int) ≤ (IntKind.wrap .i64 (n0 + n3))) ∧ ((IntKind.wrap .i64 (n0 + n3)) < (len0 : Int)) ∧ someD a0 (fun p0 => (∃ cs0 : Array Value, (CellsAt h2 (p0.add ((IntKind.wrap .i64 (n0 + n3)).toNat * 36)) 36 cs0) ∧ ((0 : Int) ≤ n0) ∧ (n0 < (len0 : Int)) ∧ someD a0 (fun p1 => (∃ cs1 : Array Value, (CellsAt h2 (p1.add (n0.toNat * 36)) 36 cs1) ∧ ((0 : Int) ≤ n0) ∧ (n0 < (len0 : Int)) ∧ someD a0 (fun p2 => (cs0.size = 36) ∧ (∀ v1 : Value, (v1 ∈ (Array.toList cs0 : List Value) → (Den.cellish v1) = Bool.true)) ∧ (Free h2 (p2.add (n0.toNat * 36)) 36) ∧ ((0 : Int) ≤ (IntKind.wrap .i64 (n0 + n3))) ∧ ((IntKind.wrap .i64 (n0 + n3)) < (len0 : Int)) ∧ someD a0 (fun p3 => (cs1.size = 36) ∧ (∀ v2 : Value, (v2 ∈ (Array.toList cs1 : List Value) → (Den.cellish v2) = Bool.true)) ∧ (Free (h2.setCells (p2.add (n0.toNat * 36)) cs0) (p3.add ((IntKind.wrap .i64 (n0 + n3)).toNat * 36)) 36) ∧ HC P slices_siftDownCmpFunc_api_Objref.n #[.slice a0 len0 cap0, .int .i64 0, .int .i64 n3, .int .i64 n0, .func (.func g0) first0 capt0] ((h2.setCells (p2.add (n0.toNat * 36)) cs0).setCells (p3.add ((IntKind.wrap .i64 (n0 + n3)).toNat * 36)) cs1) (fun v3 h3 => (slices_heapSortCmpFunc_api_Objref.k0 I1 n3 h3 x1 h2))))))))
def slices_heapSortCmpFunc_api_Objref.k3 (n1 : Int) (n0 : Int) (h0 : Hp) (len0 : Nat) (a0 : Option Addr) (cap0 : Nat) (g0 : Nat) (first0 : Array Value) (capt0 : Array Value) (K : Value → Hp → Prop) : Prop :=
 (∃ I1 : List Value → Hp → Prop, (∃ x1 : List Value → Hp → Nat, (I1 [.int .i64 (IntKind.wrap .i64 ((IntKind.wrap .i64 (n1 - n0)) - 1))] h0) ∧ (∀ h2 : Hp, (∀ n3 : Int, (I1 [.int .i64 n3] h2 → bcase (decide ((0 : Int) ≤ n3))
 ((slices_heapSortCmpFunc_api_Objref.k2 n0 n3 len0 a0 h2 cap0 g0 first0 capt0 I1 x1))
 (K (.tuple #[]) h2))))))
def slices_heapSortCmpFunc_api_Objref (a0 : Option Addr) (len0 : Nat) (cap0 : Nat) (n0 : Int) (n1 : Int) (g0 : Nat) (first0 : Array Value) (capt0 : Array Value) (K : Value → Hp → Prop) (h : Hp) : Prop :=
 ((2 : Int) ≠ 0) ∧ (∃ I0 : List Value → Hp → Prop, (∃ x0 : List Value → Hp → Nat, (I0 [.int .i64 (IntKind.wrap .i64 (Int.tdiv (IntKind.wrap .i64 ((IntKind.wrap .i64 (n1 - n0)) - 1)) 2))] h) ∧ (∀ h0 : Hp, (∀ n2 : Int, (I0 [.int .i64 n2] h0 → bcase (decide ((0 : Int) ≤ n2))
 ((slices_heapSortCmpFunc_api_Objref.k1 a0 len0 cap0 n2 n1 n0 g0 first0 capt0 h0 I0 x0))
 ((slices_heapSortCmpFunc_api_Objref.k3 n1 n0 h0 len0 a0 cap0 g0 first0 capt0 K)))))))
theorem slices_heapSortCmpFunc_api_Objref.hc {a0 : Option Addr} {len0 : Nat} {cap0 : Nat} {n0 : Int} {n1 : Int} {g0 : Nat} {first0 : Array Value} {capt0 : Array Value} {K : Value → Hp → Prop} {h : Hp} (hh : slices_heapSortCmpFunc_api_Objref a0 len0 cap0 n0 n1 g0 first0 capt0 K h) : HC P slices_heapSortCmpFunc_api_Objref.n #[.slice a0 len0 cap0, .int .i64 n0, .int .i64 n1, .func (.func g0) first0 capt0] h K :=
  HC_of_den (fn := Go.Proofs.Try.f70) (args := [.slice a0 len0 cap0, .int .i64 n0, .int .i64 n1, .func (.func g0) first0 capt0]) Go.Proofs.Try.func70 rfl (Nat.le_of_ble_eq_true (by kernel_rfl)) (den_cast hh (by kernel_rfl))

def slices_breakPatternsCmpFunc_api_Objref.k0 (n0 : Int) (n4 : Int) (n2 : Int) (n1 : Int) (len0 : Nat) (a0 : Option Addr) (h2 : Hp) (n3 : Int) (I0 : List Value → Hp → Prop) (x0 : List Value → Hp → Nat) (h1 : Hp) : Prop :=
 ((0 : Int) ≤ (IntKind.wrap .i64 (n0 + (IntKind.wrap .i64 ((IntKind.wrap .i64 (bits .and .u64 n4 (IntKind.wrap .u64 (n2 - 1)))) - (IntKind.wrap .i64 (n1 - n0))))))) ∧ ((IntKind.wrap .i64 (n0 + (IntKind.wrap .i64 ((IntKind.wrap .i64 (bits .and .u64 n4 (IntKind.wrap .u64 (n2 - 1)))) - (IntKind.wrap .i64 (n1 - n0)))))) < (len0 : Int)) ∧ someD a0 (fun p0 => (∃ cs0 : Array Value, (CellsAt h2 (p0.add ((IntKind.wrap .i64 (n0 + (IntKind.wrap .i64 ((IntKind.wrap .i64 (bits .and .u64 n4 (IntKind.wrap .u64 (n2 - 1)))) - (IntKind.wrap .i64 (n1 - n0)))))).toNat * 36)) 36 cs0) ∧ ((0 : Int) ≤ n3) ∧ (n3 < (len0 : Int)) ∧ someD a0 (fun p1 => (∃ cs1 : Array Value, (CellsAt h2 (p1.add (n3.toNat * 36)) 36 cs1) ∧ ((0 : Int) ≤ n3) ∧ (n3 < (len0 : Int)) ∧ someD a0 (fun p2 => (cs0.size = 36) ∧ (∀ v2 : Value, (v2 ∈ (Array.toList cs0 : List Value) → (Den.cellish v2) = Bool.true)) ∧ (Free h2 (p2.add (n3.toNat * 36)) 36) ∧ ((0 : Int) ≤ (IntKind.wrap .i64 (n0 + (IntKind.wrap .i64 ((IntKind.wrap .i64 (bits .and .u64 n4 (IntKind.wrap .u64 (n2 - 1)))) - (IntKind.wrap .i64 (n1 - n0))))))) ∧ ((IntKind.wrap .i64 (n0 + (IntKind.wrap .i64 ((IntKind.wrap .i64 (bits .and .u64 n4 (IntKind.wrap .u64 (n2 - 1)))) - (IntKind.wrap .i64 (n1 - n0)))))) < (len0 : Int)) ∧ someD a0 (fun p3 => (cs1.size = 36) ∧ (∀ v3 : Value, (v3 ∈ (Array.toList cs1 : List Value) → (Den.cellish v3) = Bool.true)) ∧ (Free (h2.setCells (p2.add (n3.toNat * 36)) cs0) (p3.add ((IntKind.wrap .i64 (n0 + (IntKind.wrap .i64 ((IntKind.wrap .i64 (bits .and .u64 n4 (IntKind.wrap .u64 (n2 - 1)))) - (IntKind.wrap .i64 (n1 - n0)))))).toNat * 36)) 36) ∧ (I0 [.int .i64 (IntKind.wrap .i64 (n3 + 1))] ((h2.setCells (p2.add (n3.toNat * 36)) cs0).setCells (p3.add ((IntKind.wrap .i64 (n0 + (IntKind.wrap .i64 ((IntKind.wrap .i64 (bits .and .u64 n4 (IntKind.wrap .u64 (n2 - 1)))) - (IntKind.wrap .i64 (n1 - n0)))))).toNat * 36)) cs1)) ∧ (x0 [.int .i64 (IntKind.wrap .i64 (n3 + 1))] ((h2.setCells (p2.add (n3.toNat * 36)) cs0).setCells (p3.add ((IntKind.wrap .i64 (n0 + (IntKind.wrap .i64 ((IntKind.wrap .i64 (bits .and .u64 n4 (IntKind.wrap .u64 (n2 - 1)))) - (IntKind.wrap .i64 (n1 - n0)))))).toNat * 36)) cs1)) < (x0 [.int .i64 n3] h1)))))))
def slices_breakPatternsCmpFunc_api_Objref.k1 (n0 : Int) (n4 : Int) (n2 : Int) (len0 : Nat) (a0 : Option Addr) (h2 : Hp) (n3 : Int) (I0 : List Value → Hp → Prop) (x0 : List Value → Hp → Nat) (h1 : Hp) : Prop :=
 ((0 : Int) ≤ (IntKind.wrap .i64 (n0 + (IntKind.wrap .i64 (bits .and .u64 n4 (IntKind.wrap .u64 (n2 - 1))))))) ∧ ((IntKind.wrap .i64 (n0 + (IntKind.wrap .i64 (bits .and .u64 n4 (IntKind.wrap .u64 (n2 - 1)))))) < (len0 : Int)) ∧ someD a0 (fun p4 => (∃ cs2 : Array Value, (CellsAt h2 (p4.add ((IntKind.wrap .i64 (n0 + (IntKind.wrap .i64 (bits .and .u64 n4 (IntKind.wrap .u64 (n2 - 1)))))).toNat * 36)) 36 cs2) ∧ ((0 : Int) ≤ n3) ∧ (n3 < (len0 : Int)) ∧ someD a0 (fun p5 => (∃ cs3 : Array Value, (CellsAt h2 (p5.add (n3.toNat * 36)) 36 cs3) ∧ ((0 : Int) ≤ n3) ∧ (n3 < (len0 : Int)) ∧ someD a0 (fun p6 => (cs2.size = 36) ∧ (∀ v4 : Value, (v4 ∈ (Array.toList cs2 : List Value) → (Den.cellish v4) = Bool.true)) ∧ (Free h2 (p6.add (n3.toNat * 36)) 36) ∧ ((0 : Int) ≤ (IntKind.wrap .i64 (n0 + (IntKind.wrap .i64 (bits .and .u64 n4 (IntKind.wrap .u64 (n2 - 1))))))) ∧ ((IntKind.wrap .i64 (n0 + (IntKind.wrap .i64 (bits .and .u64 n4 (IntKind.wrap .u64 (n2 - 1)))))) < (len0 : Int)) ∧ someD a0 (fun p7 => (cs3.size = 36) ∧ (∀ v5 : Value, (v5 ∈ (Array.toList cs3 : List Value) → (Den.cellish v5) = Bool.true)) ∧ (Free (h2.setCells (p6.add (n3.toNat * 36)) cs2) (p7.add ((IntKind.wrap .i64 (n0 + (IntKind.wrap .i64 (bits .and .u64 n4 (IntKind.wrap .u64 (n2 - 1)))))).toNat * 36)) 36) ∧ (I0 [.int .i64 (IntKind.wrap .i64 (n3 + 1))] ((h2.setCells (p6.add (n3.toNat * 36)) cs2).setCells (p7.add ((IntKind.wrap .i64 (n0 + (IntKind.wrap .i64 (bits .and .u64 n4 (IntKind.wrap .u64 (n2 - 1)))))).toNat * 36)) cs3)) ∧ (x0 [.int .i64 (IntKind.wrap .i64 (n3 + 1))] ((h2.setCells (p6.add (n3.toNat * 36)) cs2).setCells (p7.add ((IntKind.wrap .i64 (n0 + (IntKind.wrap .i64 (bits .and .u64 n4 (IntKind.wrap .u64 (n2 - 1)))))).toNat * 36)) cs3)) < (x0 [.int .i64 n3] h1)))))))
def slices_breakPatternsCmpFunc_api_Objref.k2 (n1 : Int) (n0 : Int) (n4 : Int) (n2 : Int) (len0 : Nat) (a0 : Option Addr) (h2 : Hp) (n3 : Int) (I0 : List Value → Hp → Prop) (x0 : List Value → Hp → Nat) (h1 : Hp) : Prop :=
 bcase (decide ((IntKind.wrap .i64 (n1 - n0)) ≤ (IntKind.wrap .i64 (bits .and .u64 n4 (IntKind.wrap .u64 (n2 - 1))))))
 ((slices_breakPatternsCmpFunc_api_Objref.k0 n0 n4 n2 n1 len0 a0 h2 n3 I0 x0 h1))
 ((slices_breakPatternsCmpFunc_api_Objref.k1 n0 n4 n2 len0 a0 h2 n3 I0 x0 h1))
def slices_breakPatternsCmpFunc_api_Objref.k3 (b0 : Nat) (h1 : Hp) (n1 : Int) (n0 : Int) (n2 : Int) (len0 : Nat) (a0 : Option Addr) (n3 : Int) (I0 : List Value → Hp → Prop) (x0 : List Value → Hp → Nat) : Prop :=
 HC P slices_xorshift_Next.n #[.pointer (some ⟨b0, 0, none⟩)] h1 (fun v1 h2 => (∃ n4 : Int, (v1 = (.int .u64 n4)) ∧ (slices_breakPatternsCmpFunc_api_Objref.k2 n1 n0 n4 n2 len0 a0 h2 n3 I0 x0 h1)))
def slices_breakPatternsCmpFunc_api_Objref.k4 (n0 : Int) (n1 : Int) (h0 : Hp) (b0 : Nat) (n2 : Int) (len0 : Nat) (a0 : Option Addr) (K : Value → Hp → Prop) : Prop :=
 ((4 : Int) ≠ 0) ∧ (∃ I0 : List Value → Hp → Prop, (∃ x0 : List Value → Hp → Nat, (I0 [.int .i64 (IntKind.wrap .i64 ((IntKind.wrap .i64 (n0 + (IntKind.wrap .i64 ((IntKind.wrap .i64 (Int.tdiv (IntKind.wrap .i64 (n1 - n0)) 4)) * 2)))) - 1))] h0) ∧ (∀ h1 : Hp, (∀ n3 : Int, (I0 [.int .i64 n3] h1 → ((4 : Int) ≠ 0) ∧ bcase (decide (n3 ≤ (IntKind.wrap .i64 ((IntKind.wrap .i64 (n0 + (IntKind.wrap .i64 ((IntKind.wrap .i64 (Int.tdiv (IntKind.wrap .i64 (n1 - n0)) 4)) * 2)))) + 1))))
 ((slices_breakPatternsCmpFunc_api_Objref.k3 b0 h1 n1 n0 n2 len0 a0 n3 I0 x0))
 (K (.tuple #[]) h1))))))
def slices_breakPatternsCmpFunc_api_Objref.k5 (h : Hp) (n1 : Int) (n0 : Int) (len0 : Nat) (a0 : Option Addr) (K : Value → Hp → Prop) : Prop :=
 (∀ b0 : Nat, ((h b0) = none → (∃ u0 : Value, ((h.put b0 (.cells #[.int .u64 0] T.slices_xorshift (0, 0))).cell? ⟨b0, 0, none⟩) = (some u0)) ∧ (((h.put b0 (.cells #[.int .u64 0] T.slices_xorshift (0, 0))).frozen? ⟨b0, 0, none⟩) = Bool.false) ∧ HC P slices_nextPowerOfTwo.n #[.int .i64 (IntKind.wrap .i64 (n1 - n0))] ((h.put b0 (.cells #[.int .u64 0] T.slices_xorshift (0, 0))).setCell ⟨b0, 0, none⟩ (.int .u64 (IntKind.wrap .u64 (IntKind.wrap .i64 (n1 - n0))))) (fun v0 h0 => (∃ n2 : Int, (v0 = (.int .u64 n2)) ∧ (slices_breakPatternsCmpFunc_api_Objref.k4 n0 n1 h0 b0 n2 len0 a0 K)))))
def slices_breakPatternsCmpFunc_api_Objref (a0 : Option Addr) (len0 : Nat) (cap0 : Nat) (n0 : Int) (n1 : Int) (g0 : Nat) (first0 : Array Value) (capt0 : Array Value) (K : Value → Hp → Prop) (h : Hp) : Prop :=
 bcase (decide ((8 : Int) ≤ (IntKind.wrap .i64 (n1 - n0))))
 ((slices_breakPatternsCmpFunc_api_Objref.k5 h n1 n0 len0 a0 K))
 (K (.tuple #[]) h)
theorem slices_breakPatternsCmpFunc_api_Objref.hc {a0 : Option Addr} {len0 : Nat} {cap0 : Nat} {n0 : Int} {n1 : Int} {g0 : Nat} {first0 : Array Value} {capt0 : Array Value} {K : Value → Hp → Prop} {h : Hp} (hh : slices_breakPatternsCmpFunc_api_Objref a0 len0 cap0 n0 n1 g0 first0 capt0 K h) : HC P slices_breakPatternsCmpFunc_api_Objref.n #[.slice a0 len0 cap0, .int .i64 n0, .int .i64 n1, .func (.func g0) first0 capt0] h K :=
  HC_of_den (fn := Go.Proofs.Try.f71) (args := [.slice a0 len0 cap0, .int .i64 n0, .int .i64 n1, .func (.func g0) first0 capt0]) Go.Proofs.Try.func71 rfl (Nat.le_of_ble_eq_true (by kernel_rfl)) (den_cast hh (by kernel_rfl))

def slices_choosePivotCmpFunc_api_Objref.k0 (n6 : Int) (K : Value → Hp → Prop) (n5 : Int) (h3 : Hp) : Prop :=
 bcase ((n6 == 12))
 (K (.tuple #[.int .i64 n5, .int .i64 2]) h3)
 (K (.tuple #[.int .i64 n5, .int .i64 0]) h3)
def slices_choosePivotCmpFunc_api_Objref.k1 (n6 : Int) (K : Value → Hp → Prop) (n5 : Int) (h3 : Hp) : Prop :=
 bcase ((n6 == 0))
 (K (.tuple #[.int .i64 n5, .int .i64 1]) h3)
 ((slices_choosePivotCmpFunc_api_Objref.k0 n6 K n5 h3))
def slices_choosePivotCmpFunc_api_Objref.k2 (a0 : Option Addr) (len0 : Nat) (cap0 : Nat) (n2 : Int) (n3 : Int) (n4 : Int) (b0 : Nat) (g0 : Nat) (first0 : Array Value) (capt0 : Array Value) (h2 : Hp) (K : Value → Hp → Prop) : Prop :=
 HC P slices_medianCmpFunc_api_Objref.n #[.slice a0 len0 cap0, .int .i64 n2, .int .i64 n3, .int .i64 n4, .pointer (some ⟨b0, 0, none⟩), .func (.func g0) first0 capt0] h2 (fun v3 h3 => (∃ n5 : Int, (v3 = (.int .i64 n5)) ∧ (∃ n6 : Int, ((h3.cell? ⟨b0, 0, none⟩) = (some (.int .i64 n6))) ∧ (slices_choosePivotCmpFunc_api_Objref.k1 n6 K n5 h3))))
def slices_choosePivotCmpFunc_api_Objref.k3 (a0 : Option Addr) (len0 : Nat) (cap0 : Nat) (n0 : Int) (n1 : Int) (b0 : Nat) (g0 : Nat) (first0 : Array Value) (capt0 : Array Value) (h1 : Hp) (n2 : Int) (n3 : Int) (K : Value → Hp → Prop) : Prop :=
 HC P slices_medianAdjacentCmpFunc_api_Objref.n #[.slice a0 len0 cap0, .int .i64 (IntKind.wrap .i64 (n0 + (IntKind.wrap .i64 ((IntKind.wrap .i64 (Int.tdiv (IntKind.wrap .i64 (n1 - n0)) 4)) * 3)))), .pointer (some ⟨b0, 0, none⟩), .func (.func g0) first0 capt0] h1 (fun v2 h2 => (∃ n4 : Int, (v2 = (.int .i64 n4)) ∧ (slices_choosePivotCmpFunc_api_Objref.k2 a0 len0 cap0 n2 n3 n4 b0 g0 first0 capt0 h2 K)))
def slices_choosePivotCmpFunc_api_Objref.k4 (a0 : Option Addr) (len0 : Nat) (cap0 : Nat) (n0 : Int) (n1 : Int) (b0 : Nat) (g0 : Nat) (first0 : Array Value) (capt0 : Array Value) (h0 : Hp) (n2 : Int) (K : Value → Hp → Prop) : Prop :=
 HC P slices_medianAdjacentCmpFunc_api_Objref.n #[.slice a0 len0 cap0, .int .i64 (IntKind.wrap .i64 (n0 + (IntKind.wrap .i64 ((IntKind.wrap .i64 (Int.tdiv (IntKind.wrap .i64 (n1 - n0)) 4)) * 2)))), .pointer (some ⟨b0, 0, none⟩), .func (.func g0) first0 capt0] h0 (fun v1 h1 => (∃ n3 : Int, (v1 = (.int .i64 n3)) ∧ (slices_choosePivotCmpFunc_api_Objref.k3 a0 len0 cap0 n0 n1 b0 g0 first0 capt0 h1 n2 n3 K)))
def slices_choosePivotCmpFunc_api_Objref.k5 (a0 : Option Addr) (len0 : Nat) (cap0 : Nat) (n0 : Int) (n1 : Int) (b0 : Nat) (g0 : Nat) (first0 : Array Value) (capt0 : Array Value) (h : Hp) (K : Value → Hp → Prop) : Prop :=
 HC P slices_medianAdjacentCmpFunc_api_Objref.n #[.slice a0 len0 cap0, .int .i64 (IntKind.wrap .i64 (n0 + (IntKind.wrap .i64 ((IntKind.wrap .i64 (Int.tdiv (IntKind.wrap .i64 (n1 - n0)) 4)) * 1)))), .pointer (some ⟨b0, 0, none⟩), .func (.func g0) first0 capt0] (h.put b0 (.cells #[.int .i64 0] T.int (0, 0))) (fun v0 h0 => (∃ n2 : Int, (v0 = (.int .i64 n2)) ∧ (slices_choosePivotCmpFunc_api_Objref.k4 a0 len0 cap0 n0 n1 b0 g0 first0 capt0 h0 n2 K)))
def slices_choosePivotCmpFunc_api_Objref.k6 (a0 : Option Addr) (len0 : Nat) (cap0 : Nat) (n0 : Int) (n1 : Int) (b0 : Nat) (g0 : Nat) (first0 : Array Value) (capt0 : Array Value) (h : Hp) (K : Value → Hp → Prop) : Prop :=
 HC P slices_medianCmpFunc_api_Objref.n #[.slice a0 len0 cap0, .int .i64 (IntKind.wrap .i64 (n0 + (IntKind.wrap .i64 ((IntKind.wrap .i64 (Int.tdiv (IntKind.wrap .i64 (n1 - n0)) 4)) * 1)))), .int .i64 (IntKind.wrap .i64 (n0 + (IntKind.wrap .i64 ((IntKind.wrap .i64 (Int.tdiv (IntKind.wrap .i64 (n1 - n0)) 4)) * 2)))), .int .i64 (IntKind.wrap .i64 (n0 + (IntKind.wrap .i64 ((IntKind.wrap .i64 (Int.tdiv (IntKind.wrap .i64 (n1 - n0)) 4)) * 3)))), .pointer (some ⟨b0, 0, none⟩), .func (.func g0) first0 capt0] (h.put b0 (.cells #[.int .i64 0] T.int (0, 0))) (fun v4 h4 => (∃ n7 : Int, (v4 = (.int .i64 n7)) ∧ (∃ n8 : Int, ((h4.cell? ⟨b0, 0, none⟩) = (some (.int .i64 n8))) ∧ (slices_choosePivotCmpFunc_api_Objref.k1 n8 K n7 h4))))
def slices_choosePivotCmpFunc_api_Objref.k7 (n1 : Int) (n0 : Int) (a0 : Option Addr) (len0 : Nat) (cap0 : Nat) (b0 : Nat) (g0 : Nat) (first0 : Array Value) (capt0 : Array Value) (h : Hp) (K : Value → Hp → Prop) : Prop :=
 bcase (decide ((50 : Int) ≤ (IntKind.wrap .i64 (n1 - n0))))
 ((slices_choosePivotCmpFunc_api_Objref.k5 a0 len0 cap0 n0 n1 b0 g0 first0 capt0 h K))
 ((slices_choosePivotCmpFunc_api_Objref.k6 a0 len0 cap0 n0 n1 b0 g0 first0 capt0 h K))
def slices_choosePivotCmpFunc_api_Objref.k8 (K : Value → Hp → Prop) (n0 : Int) (n1 : Int) (h : Hp) (b0 : Nat) : Prop :=
 K (.tuple #[.int .i64 (IntKind.wrap .i64 (n0 + (IntKind.wrap .i64 ((IntKind.wrap .i64 (Int.tdiv (IntKind.wrap .i64 (n1 - n0)) 4)) * 2)))), .int .i64 1]) (h.put b0 (.cells #[.int .i64 0] T.int (0, 0)))
def slices_choosePivotCmpFunc_api_Objref.k9 (K : Value → Hp → Prop) (n0 : Int) (n1 : Int) (h : Hp) (b0 : Nat) : Prop :=
 K (.tuple #[.int .i64 (IntKind.wrap .i64 (n0 + (IntKind.wrap .i64 ((IntKind.wrap .i64 (Int.tdiv (IntKind.wrap .i64 (n1 - n0)) 4)) * 2)))), .int .i64 2]) (h.put b0 (.cells #[.int .i64 0] T.int (0, 0)))
def slices_choosePivotCmpFunc_api_Objref.k10 (K : Value → Hp → Prop) (n0 : Int) (n1 : Int) (h : Hp) (b0 : Nat) : Prop :=
 K (.tuple #[.int .i64 (IntKind.wrap .i64 (n0 + (IntKind.wrap .i64 ((IntKind.wrap .i64 (Int.tdiv (IntKind.wrap .i64 (n1 - n0)) 4)) * 2)))), .int .i64 0]) (h.put b0 (.cells #[.int .i64 0] T.int (0, 0)))
def slices_choosePivotCmpFunc_api_Objref.k11 (n9 : Int) (K : Value → Hp → Prop) (n0 : Int) (n1 : Int) (h : Hp) (b0 : Nat) : Prop :=
 bcase ((n9 == 12))
 ((slices_choosePivotCmpFunc_api_Objref.k9 K n0 n1 h b0))
 ((slices_choosePivotCmpFunc_api_Objref.k10 K n0 n1 h b0))
def slices_choosePivotCmpFunc_api_Objref.k12 (h : Hp) (b0 : Nat) (K : Value → Hp → Prop) (n0 : Int) (n1 : Int) : Prop :=
 (∃ n9 : Int, (((h.put b0 (.cells #[.int .i64 0] T.int (0, 0))).cell? ⟨b0, 0, none⟩) = (some (.int .i64 n9))) ∧ bcase ((n9 == 0))
 ((slices_choosePivotCmpFunc_api_Objref.k8 K n0 n1 h b0))
 ((slices_choosePivotCmpFunc_api_Objref.k11 n9 K n0 n1 h b0)))
def slices_choosePivotCmpFunc_api_Objref (a0 : Option Addr) (len0 : Nat) (cap0 : Nat) (n0 : Int) (n1 : Int) (g0 : Nat) (first0 : Array Value) (capt0 : Array Value) (K : Value → Hp → Prop) (h : Hp) : Prop :=
 (∀ b0 : Nat, ((h b0) = none → ((4 : Int) ≠ 0) ∧ ((4 : Int) ≠ 0) ∧ ((4 : Int) ≠ 0) ∧ bcase (decide ((8 : Int) ≤ (IntKind.wrap .i64 (n1 - n0))))
 ((slices_choosePivotCmpFunc_api_Objref.k7 n1 n0 a0 len0 cap0 b0 g0 first0 capt0 h K))
 ((slices_choosePivotCmpFunc_api_Objref.k12 h b0 K n0 n1))))
theorem slices_choosePivotCmpFunc_api_Objref.hc {a0 : Option Addr} {len0 : Nat} {cap0 : Nat} {n0 : Int} {n1 : Int} {g0 : Nat} {first0 : Array Value} {capt0 : Array Value} {K : Value → Hp → Prop} {h : Hp} (hh : slices_choosePivotCmpFunc_api_Objref a0 len0 cap0 n0 n1 g0 first0 capt0 K h) : HC P slices_choosePivotCmpFunc_api_Objref.n #[.slice a0 len0 cap0, .int .i64 n0, .int .i64 n1, .func (.func g0) first0 capt0] h K :=
  HC_of_den (fn := Go.Proofs.Try.f72) (args := [.slice a0 len0 cap0, .int .i64 n0, .int .i64 n1, .func (.func g0) first0 capt0]) Go.Proofs.Try.func72 rfl (Nat.le_of_ble_eq_true (by kernel_rfl)) (den_cast hh (by kernel_rfl))

def slices_reverseRangeCmpFunc_api_Objref.k0 (n3 : Int) (len0 : Nat) (a0 : Option Addr) (h0 : Hp) (n2 : Int) (I0 : List Value → Hp → Prop) (x0 : List Value → Hp → Nat) : Prop :=
 ((0 : Int) ≤ n3) ∧ (n3 < (len0 : Int)) ∧ someD a0 (fun p0 => (∃ cs0 : Array Value, (CellsAt h0 (p0.add (n3.toNat * 36)) 36 cs0) ∧ ((0 : Int) ≤ n2) ∧ (n2 < (len0 : Int)) ∧ someD a0 (fun p1 => (∃ cs1 : Array Value, (CellsAt h0 (p1.add (n2.toNat * 36)) 36 cs1) ∧ ((0 : Int) ≤ n2) ∧ (n2 < (len0 : Int)) ∧ someD a0 (fun p2 => (cs0.size = 36) ∧ (∀ v0 : Value, (v0 ∈ (Array.toList cs0 : List Value) → (Den.cellish v0) = Bool.true)) ∧ (Free h0 (p2.add (n2.toNat * 36)) 36) ∧ ((0 : Int) ≤ n3) ∧ (n3 < (len0 : Int)) ∧ someD a0 (fun p3 => (cs1.size = 36) ∧ (∀ v1 : Value, (v1 ∈ (Array.toList cs1 : List Value) → (Den.cellish v1) = Bool.true)) ∧ (Free (h0.setCells (p2.add (n2.toNat * 36)) cs0) (p3.add (n3.toNat * 36)) 36) ∧ (I0 [.int .i64 (IntKind.wrap .i64 (n2 + 1)), .int .i64 (IntKind.wrap .i64 (n3 - 1))] ((h0.setCells (p2.add (n2.toNat * 36)) cs0).setCells (p3.add (n3.toNat * 36)) cs1)) ∧ (x0 [.int .i64 (IntKind.wrap .i64 (n2 + 1)), .int .i64 (IntKind.wrap .i64 (n3 - 1))] ((h0.setCells (p2.add (n2.toNat * 36)) cs0).setCells (p3.add (n3.toNat * 36)) cs1)) < (x0 [.int .i64 n2, .int .i64 n3] h0)))))))
def slices_reverseRangeCmpFunc_api_Objref (a0 : Option Addr) (len0 : Nat) (cap0 : Nat) (n0 : Int) (n1 : Int) (g0 : Nat) (first0 : Array Value) (capt0 : Array Value) (K : Value → Hp → Prop) (h : Hp) : Prop :=
 (∃ I0 : List Value → Hp → Prop, (∃ x0 : List Value → Hp → Nat, (I0 [.int .i64 n0, .int .i64 (IntKind.wrap .i64 (n1 - 1))] h) ∧ (∀ h0 : Hp, (∀ n2 : Int, (∀ n3 : Int, (I0 [.int .i64 n2, .int .i64 n3] h0 → bcase (decide (n2 < n3))
 ((slices_reverseRangeCmpFunc_api_Objref.k0 n3 len0 a0 h0 n2 I0 x0))
 (K (.tuple #[]) h0)))))))
theorem slices_reverseRangeCmpFunc_api_Objref.hc {a0 : Option Addr} {len0 : Nat} {cap0 : Nat} {n0 : Int} {n1 : Int} {g0 : Nat} {first0 : Array Value} {capt0 : Array Value} {K : Value → Hp → Prop} {h : Hp} (hh : slices_reverseRangeCmpFunc_api_Objref a0 len0 cap0 n0 n1 g0 first0 capt0 K h) : HC P slices_reverseRangeCmpFunc_api_Objref.n #[.slice a0 len0 cap0, .int .i64 n0, .int .i64 n1, .func (.func g0) first0 capt0] h K :=
  HC_of_den (fn := Go.Proofs.Try.f73) (args := [.slice a0 len0 cap0, .int .i64 n0, .int .i64 n1, .func (.func g0) first0 capt0]) Go.Proofs.Try.func73 rfl (Nat.le_of_ble_eq_true (by kernel_rfl)) (den_cast hh (by kernel_rfl))

def slices_partialInsertionSortCmpFunc_api_Objref.k0 (I1 : List Value → Hp → Prop) (n4 : Int) (h2 : Hp) (x1 : List Value → Hp → Nat) (h1 : Hp) : Prop :=
 (I1 [.int .i64 (IntKind.wrap .i64 (n4 + 1))] h2) ∧ (x1 [.int .i64 (IntKind.wrap .i64 (n4 + 1))] h2) < (x1 [.int .i64 n4] h1)
def slices_partialInsertionSortCmpFunc_api_Objref.k1 (I0 : List Value → Hp → Prop) (n4 : Int) (b0 : Bool) (n3 : Int) (h6 : Hp) (x0 : List Value → Hp → Nat) (n2 : Int) (h0 : Hp) : Prop :=
 (I0 [.int .i64 n4, .bool b0, .int .i64 (IntKind.wrap .i64 (n3 + 1))] h6) ∧ (x0 [.int .i64 n4, .bool b0, .int .i64 (IntKind.wrap .i64 (n3 + 1))] h6) < (x0 [.int .i64 n2, .bool b0, .int .i64 n3] h0)
def slices_partialInsertionSortCmpFunc_api_Objref.k2 (n8 : Int) (len0 : Nat) (a0 : Option Addr) (h6 : Hp) (I3 : List Value → Hp → Prop) (x3 : List Value → Hp → Nat) (h5 : Hp) : Prop :=
 ((0 : Int) ≤ (IntKind.wrap .i64 (n8 - 1))) ∧ ((IntKind.wrap .i64 (n8 - 1)) < (len0 : Int)) ∧ someD a0 (fun p10 => (∃ cs8 : Array Value, (CellsAt h6 (p10.add ((IntKind.wrap .i64 (n8 - 1)).toNat * 36)) 36 cs8) ∧ ((0 : Int) ≤ n8) ∧ (n8 < (len0 : Int)) ∧ someD a0 (fun p11 => (∃ cs9 : Array Value, (CellsAt h6 (p11.add (n8.toNat * 36)) 36 cs9) ∧ ((0 : Int) ≤ n8) ∧ (n8 < (len0 : Int)) ∧ someD a0 (fun p12 => (cs8.size = 36) ∧ (∀ v5 : Value, (v5 ∈ (Array.toList cs8 : List Value) → (Den.cellish v5) = Bool.true)) ∧ (Free h6 (p12.add (n8.toNat * 36)) 36) ∧ ((0 : Int) ≤ (IntKind.wrap .i64 (n8 - 1))) ∧ ((IntKind.wrap .i64 (n8 - 1)) < (len0 : Int)) ∧ someD a0 (fun p13 => (cs9.size = 36) ∧ (∀ v6 : Value, (v6 ∈ (Array.toList cs9 : List Value) → (Den.cellish v6) = Bool.true)) ∧ (Free (h6.setCells (p12.add (n8.toNat * 36)) cs8) (p13.add ((IntKind.wrap .i64 (n8 - 1)).toNat * 36)) 36) ∧ (I3 [.int .i64 (IntKind.wrap .i64 (n8 + 1))] ((h6.setCells (p12.add (n8.toNat * 36)) cs8).setCells (p13.add ((IntKind.wrap .i64 (n8 - 1)).toNat * 36)) cs9)) ∧ (x3 [.int .i64 (IntKind.wrap .i64 (n8 + 1))] ((h6.setCells (p12.add (n8.toNat * 36)) cs8).setCells (p13.add ((IntKind.wrap .i64 (n8 - 1)).toNat * 36)) cs9)) < (x3 [.int .i64 n8] h5)))))))
def slices_partialInsertionSortCmpFunc_api_Objref.k3 (n9 : Int) (I0 : List Value → Hp → Prop) (n4 : Int) (b0 : Bool) (n3 : Int) (h6 : Hp) (x0 : List Value → Hp → Nat) (n2 : Int) (h0 : Hp) (n8 : Int) (len0 : Nat) (a0 : Option Addr) (I3 : List Value → Hp → Prop) (x3 : List Value → Hp → Nat) (h5 : Hp) : Prop :=
 bcase ((!(decide (n9 < 0))))
 ((slices_partialInsertionSortCmpFunc_api_Objref.k1 I0 n4 b0 n3 h6 x0 n2 h0))
 ((slices_partialInsertionSortCmpFunc_api_Objref.k2 n8 len0 a0 h6 I3 x3 h5))
def slices_partialInsertionSortCmpFunc_api_Objref.k4 (n8 : Int) (len0 : Nat) (a0 : Option Addr) (h5 : Hp) (g0 : Nat) (first0 : Array Value) (capt0 : Array Value) (I0 : List Value → Hp → Prop) (n4 : Int) (b0 : Bool) (n3 : Int) (x0 : List Value → Hp → Nat) (n2 : Int) (h0 : Hp) (I3 : List Value → Hp → Prop) (x3 : List Value → Hp → Nat) : Prop :=
 ((0 : Int) ≤ n8) ∧ (n8 < (len0 : Int)) ∧ someD a0 (fun p8 => (∃ cs6 : Array Value, (CellsAt h5 (p8.add (n8.toNat * 36)) 36 cs6) ∧ ((0 : Int) ≤ (IntKind.wrap .i64 (n8 - 1))) ∧ ((IntKind.wrap .i64 (n8 - 1)) < (len0 : Int)) ∧ someD a0 (fun p9 => (∃ cs7 : Array Value, (CellsAt h5 (p9.add ((IntKind.wrap .i64 (n8 - 1)).toNat * 36)) 36 cs7) ∧ trueD (callable P g0) (HC P g0 (Array.mk (Array.toList first0 ++ ((.agg cs6) :: ((.agg cs7) :: (List.append [] (Array.toList capt0)))))) h5 (fun v4 h6 => (∃ n9 : Int, (v4 = (.int .i64 n9)) ∧ (slices_partialInsertionSortCmpFunc_api_Objref.k3 n9 I0 n4 b0 n3 h6 x0 n2 h0 n8 len0 a0 I3 x3 h5))))))))
def slices_partialInsertionSortCmpFunc_api_Objref.k5 (n4 : Int) (h4 : Hp) (n1 : Int) (len0 : Nat) (a0 : Option Addr) (g0 : Nat) (first0 : Array Value) (capt0 : Array Value) (I0 : List Value → Hp → Prop) (b0 : Bool) (n3 : Int) (x0 : List Value → Hp → Nat) (n2 : Int) (h0 : Hp) : Prop :=
 (∃ I3 : List Value → Hp → Prop, (∃ x3 : List Value → Hp → Nat, (I3 [.int .i64 (IntKind.wrap .i64 (n4 + 1))] h4) ∧ (∀ h5 : Hp, (∀ n8 : Int, (I3 [.int .i64 n8] h5 → bcase (decide (n8 < n1))
 ((slices_partialInsertionSortCmpFunc_api_Objref.k4 n8 len0 a0 h5 g0 first0 capt0 I0 n4 b0 n3 x0 n2 h0 I3 x3))
 ((slices_partialInsertionSortCmpFunc_api_Objref.k1 I0 n4 b0 n3 h5 x0 n2 h0)))))))
def slices_partialInsertionSortCmpFunc_api_Objref.k6 (n1 : Int) (n4 : Int) (h4 : Hp) (len0 : Nat) (a0 : Option Addr) (g0 : Nat) (first0 : Array Value) (capt0 : Array Value) (I0 : List Value → Hp → Prop) (b0 : Bool) (n3 : Int) (x0 : List Value → Hp → Nat) (n2 : Int) (h0 : Hp) : Prop :=
 bcase (decide ((2 : Int) ≤ (IntKind.wrap .i64 (n1 - n4))))
 ((slices_partialInsertionSortCmpFunc_api_Objref.k5 n4 h4 n1 len0 a0 g0 first0 capt0 I0 b0 n3 x0 n2 h0))
 ((slices_partialInsertionSortCmpFunc_api_Objref.k1 I0 n4 b0 n3 h4 x0 n2 h0))
def slices_partialInsertionSortCmpFunc_api_Objref.k7 (n6 : Int) (len0 : Nat) (a0 : Option Addr) (h4 : Hp) (I2 : List Value → Hp → Prop) (x2 : List Value → Hp → Nat) (h3 : Hp) : Prop :=
 ((0 : Int) ≤ (IntKind.wrap .i64 (n6 - 1))) ∧ ((IntKind.wrap .i64 (n6 - 1)) < (len0 : Int)) ∧ someD a0 (fun p14 => (∃ cs10 : Array Value, (CellsAt h4 (p14.add ((IntKind.wrap .i64 (n6 - 1)).toNat * 36)) 36 cs10) ∧ ((0 : Int) ≤ n6) ∧ (n6 < (len0 : Int)) ∧ someD a0 (fun p15 => (∃ cs11 : Array Value, (CellsAt h4 (p15.add (n6.toNat * 36)) 36 cs11) ∧ ((0 : Int) ≤ n6) ∧ (n6 < (len0 : Int)) ∧ someD a0 (fun p16 => (cs10.size = 36) ∧ (∀ v7 : Value, (v7 ∈ (Array.toList cs10 : List Value) → (Den.cellish v7) = Bool.true)) ∧ (Free h4 (p16.add (n6.toNat * 36)) 36) ∧ ((0 : Int) ≤ (IntKind.wrap .i64 (n6 - 1))) ∧ ((IntKind.wrap .i64 (n6 - 1)) < (len0 : Int)) ∧ someD a0 (fun p17 => (cs11.size = 36) ∧ (∀ v8 : Value, (v8 ∈ (Array.toList cs11 : List Value) → (Den.cellish v8) = Bool.true)) ∧ (Free (h4.setCells (p16.add (n6.toNat * 36)) cs10) (p17.add ((IntKind.wrap .i64 (n6 - 1)).toNat * 36)) 36) ∧ (I2 [.int .i64 (IntKind.wrap .i64 (n6 - 1))] ((h4.setCells (p16.add (n6.toNat * 36)) cs10).setCells (p17.add ((IntKind.wrap .i64 (n6 - 1)).toNat * 36)) cs11)) ∧ (x2 [.int .i64 (IntKind.wrap .i64 (n6 - 1))] ((h4.setCells (p16.add (n6.toNat * 36)) cs10).setCells (p17.add ((IntKind.wrap .i64 (n6 - 1)).toNat * 36)) cs11)) < (x2 [.int .i64 n6] h3)))))))
def slices_partialInsertionSortCmpFunc_api_Objref.k8 (n7 : Int) (n1 : Int) (n4 : Int) (h4 : Hp) (len0 : Nat) (a0 : Option Addr) (g0 : Nat) (first0 : Array Value) (capt0 : Array Value) (I0 : List Value → Hp → Prop) (b0 : Bool) (n3 : Int) (x0 : List Value → Hp → Nat) (n2 : Int) (h0 : Hp) (n6 : Int) (I2 : List Value → Hp → Prop) (x2 : List Value → Hp → Nat) (h3 : Hp) : Prop :=
 bcase ((!(decide (n7 < 0))))
 ((slices_partialInsertionSortCmpFunc_api_Objref.k6 n1 n4 h4 len0 a0 g0 first0 capt0 I0 b0 n3 x0 n2 h0))
 ((slices_partialInsertionSortCmpFunc_api_Objref.k7 n6 len0 a0 h4 I2 x2 h3))
def slices_partialInsertionSortCmpFunc_api_Objref.k9 (n6 : Int) (len0 : Nat) (a0 : Option Addr) (h3 : Hp) (g0 : Nat) (first0 : Array Value) (capt0 : Array Value) (n1 : Int) (n4 : Int) (I0 : List Value → Hp → Prop) (b0 : Bool) (n3 : Int) (x0 : List Value → Hp → Nat) (n2 : Int) (h0 : Hp) (I2 : List Value → Hp → Prop) (x2 : List Value → Hp → Nat) : Prop :=
 ((0 : Int) ≤ n6) ∧ (n6 < (len0 : Int)) ∧ someD a0 (fun p6 => (∃ cs4 : Array Value, (CellsAt h3 (p6.add (n6.toNat * 36)) 36 cs4) ∧ ((0 : Int) ≤ (IntKind.wrap .i64 (n6 - 1))) ∧ ((IntKind.wrap .i64 (n6 - 1)) < (len0 : Int)) ∧ someD a0 (fun p7 => (∃ cs5 : Array Value, (CellsAt h3 (p7.add ((IntKind.wrap .i64 (n6 - 1)).toNat * 36)) 36 cs5) ∧ trueD (callable P g0) (HC P g0 (Array.mk (Array.toList first0 ++ ((.agg cs4) :: ((.agg cs5) :: (List.append [] (Array.toList capt0)))))) h3 (fun v3 h4 => (∃ n7 : Int, (v3 = (.int .i64 n7)) ∧ (slices_partialInsertionSortCmpFunc_api_Objref.k8 n7 n1 n4 h4 len0 a0 g0 first0 capt0 I0 b0 n3 x0 n2 h0 n6 I2 x2 h3))))))))
def slices_partialInsertionSortCmpFunc_api_Objref.k10 (n4 : Int) (h2 : Hp) (p4 : Addr) (cs2 : Array Value) (p5 : Addr) (cs3 : Array Value) (len0 : Nat) (a0 : Option Addr) (g0 : Nat) (first0 : Array Value) (capt0 : Array Value) (n1 : Int) (I0 : List Value → Hp → Prop) (b0 : Bool) (n3 : Int) (x0 : List Value → Hp → Nat) (n2 : Int) (h0 : Hp) : Prop :=
 (∃ I2 : List Value → Hp → Prop, (∃ x2 : List Value → Hp → Nat, (I2 [.int .i64 (IntKind.wrap .i64 (n4 - 1))] ((h2.setCells (p4.add (n4.toNat * 36)) cs2).setCells (p5.add ((IntKind.wrap .i64 (n4 - 1)).toNat * 36)) cs3)) ∧ (∀ h3 : Hp, (∀ n6 : Int, (I2 [.int .i64 n6] h3 → bcase (decide ((1 : Int) ≤ n6))
 ((slices_partialInsertionSortCmpFunc_api_Objref.k9 n6 len0 a0 h3 g0 first0 capt0 n1 n4 I0 b0 n3 x0 n2 h0 I2 x2))
 ((slices_partialInsertionSortCmpFunc_api_Objref.k6 n1 n4 h3 len0 a0 g0 first0 capt0 I0 b0 n3 x0 n2 h0)))))))
def slices_partialInsertionSortCmpFunc_api_Objref.k11 (n4 : Int) (h2 : Hp) (p4 : Addr) (cs2 : Array Value) (p5 : Addr) (cs3 : Array Value) (n1 : Int) (len0 : Nat) (a0 : Option Addr) (g0 : Nat) (first0 : Array Value) (capt0 : Array Value) (I0 : List Value → Hp → Prop) (b0 : Bool) (n3 : Int) (x0 : List Value → Hp → Nat) (n2 : Int) (h0 : Hp) : Prop :=
 (∃ I4 : List Value → Hp → Prop, (∃ x4 : List Value → Hp → Nat, (I4 [.int .i64 (IntKind.wrap .i64 (n4 + 1))] ((h2.setCells (p4.add (n4.toNat * 36)) cs2).setCells (p5.add ((IntKind.wrap .i64 (n4 - 1)).toNat * 36)) cs3)) ∧ (∀ h7 : Hp, (∀ n10 : Int, (I4 [.int .i64 n10] h7 → bcase (decide (n10 < n1))
 ((slices_partialInsertionSortCmpFunc_api_Objref.k4 n10 len0 a0 h7 g0 first0 capt0 I0 n4 b0 n3 x0 n2 h0 I4 x4))
 ((slices_partialInsertionSortCmpFunc_api_Objref.k1 I0 n4 b0 n3 h7 x0 n2 h0)))))))
def slices_partialInsertionSortCmpFunc_api_Objref.k12 (I0 : List Value → Hp → Prop) (n4 : Int) (b0 : Bool) (n3 : Int) (h2 : Hp) (p4 : Addr) (cs2 : Array Value) (p5 : Addr) (cs3 : Array Value) (x0 : List Value → Hp → Nat) (n2 : Int) (h0 : Hp) : Prop :=
 (I0 [.int .i64 n4, .bool b0, .int .i64 (IntKind.wrap .i64 (n3 + 1))] ((h2.setCells (p4.add (n4.toNat * 36)) cs2).setCells (p5.add ((IntKind.wrap .i64 (n4 - 1)).toNat * 36)) cs3)) ∧ (x0 [.int .i64 n4, .bool b0, .int .i64 (IntKind.wrap .i64 (n3 + 1))] ((h2.setCells (p4.add (n4.toNat * 36)) cs2).setCells (p5.add ((IntKind.wrap .i64 (n4 - 1)).toNat * 36)) cs3)) < (x0 [.int .i64 n2, .bool b0, .int .i64 n3] h0)
def slices_partialInsertionSortCmpFunc_api_Objref.k13 (n1 : Int) (n4 : Int) (h2 : Hp) (p4 : Addr) (cs2 : Array Value) (p5 : Addr) (cs3 : Array Value) (len0 : Nat) (a0 : Option Addr) (g0 : Nat) (first0 : Array Value) (capt0 : Array Value) (I0 : List Value → Hp → Prop) (b0 : Bool) (n3 : Int) (x0 : List Value → Hp → Nat) (n2 : Int) (h0 : Hp) : Prop :=
 bcase (decide ((2 : Int) ≤ (IntKind.wrap .i64 (n1 - n4))))
 ((slices_partialInsertionSortCmpFunc_api_Objref.k11 n4 h2 p4 cs2 p5 cs3 n1 len0 a0 g0 first0 capt0 I0 b0 n3 x0 n2 h0))
 ((slices_partialInsertionSortCmpFunc_api_Objref.k12 I0 n4 b0 n3 h2 p4 cs2 p5 cs3 x0 n2 h0))
def slices_partialInsertionSortCmpFunc_api_Objref.k14 (n4 : Int) (len0 : Nat) (a0 : Option Addr) (h2 : Hp) (n0 : Int) (g0 : Nat) (first0 : Array Value) (capt0 : Array Value) (n1 : Int) (I0 : List Value → Hp → Prop) (b0 : Bool) (n3 : Int) (x0 : List Value → Hp → Nat) (n2 : Int) (h0 : Hp) : Prop :=
 ((0 : Int) ≤ (IntKind.wrap .i64 (n4 - 1))) ∧ ((IntKind.wrap .i64 (n4 - 1)) < (len0 : Int)) ∧ someD a0 (fun p2 => (∃ cs2 : Array Value, (CellsAt h2 (p2.add ((IntKind.wrap .i64 (n4 - 1)).toNat * 36)) 36 cs2) ∧ ((0 : Int) ≤ n4) ∧ (n4 < (len0 : Int)) ∧ someD a0 (fun p3 => (∃ cs3 : Array Value, (CellsAt h2 (p3.add (n4.toNat * 36)) 36 cs3) ∧ ((0 : Int) ≤ n4) ∧ (n4 < (len0 : Int)) ∧ someD a0 (fun p4 => (cs2.size = 36) ∧ (∀ v1 : Value, (v1 ∈ (Array.toList cs2 : List Value) → (Den.cellish v1) = Bool.true)) ∧ (Free h2 (p4.add (n4.toNat * 36)) 36) ∧ ((0 : Int) ≤ (IntKind.wrap .i64 (n4 - 1))) ∧ ((IntKind.wrap .i64 (n4 - 1)) < (len0 : Int)) ∧ someD a0 (fun p5 => (cs3.size = 36) ∧ (∀ v2 : Value, (v2 ∈ (Array.toList cs3 : List Value) → (Den.cellish v2) = Bool.true)) ∧ (Free (h2.setCells (p4.add (n4.toNat * 36)) cs2) (p5.add ((IntKind.wrap .i64 (n4 - 1)).toNat * 36)) 36) ∧ bcase (decide ((2 : Int) ≤ (IntKind.wrap .i64 (n4 - n0))))
 ((slices_partialInsertionSortCmpFunc_api_Objref.k10 n4 h2 p4 cs2 p5 cs3 len0 a0 g0 first0 capt0 n1 I0 b0 n3 x0 n2 h0))
 ((slices_partialInsertionSortCmpFunc_api_Objref.k13 n1 n4 h2 p4 cs2 p5 cs3 len0 a0 g0 first0 capt0 I0 b0 n3 x0 n2 h0))))))))
def slices_partialInsertionSortCmpFunc_api_Objref.k15 (n1 : Int) (n0 : Int) (K : Value → Hp → Prop) (h2 : Hp) (n4 : Int) (len0 : Nat) (a0 : Option Addr) (g0 : Nat) (first0 : Array Value) (capt0 : Array Value) (I0 : List Value → Hp → Prop) (b0 : Bool) (n3 : Int) (x0 : List Value → Hp → Nat) (n2 : Int) (h0 : Hp) : Prop :=
 bcase (decide ((IntKind.wrap .i64 (n1 - n0)) < 50))
 (K (.bool Bool.false) h2)
 ((slices_partialInsertionSortCmpFunc_api_Objref.k14 n4 len0 a0 h2 n0 g0 first0 capt0 n1 I0 b0 n3 x0 n2 h0))
def slices_partialInsertionSortCmpFunc_api_Objref.k16 (n4 : Int) (n1 : Int) (K : Value → Hp → Prop) (h2 : Hp) (n0 : Int) (len0 : Nat) (a0 : Option Addr) (g0 : Nat) (first0 : Array Value) (capt0 : Array Value) (I0 : List Value → Hp → Prop) (b0 : Bool) (n3 : Int) (x0 : List Value → Hp → Nat) (n2 : Int) (h0 : Hp) : Prop :=
 bcase ((n4 == n1))
 (K (.bool Bool.true) h2)
 ((slices_partialInsertionSortCmpFunc_api_Objref.k15 n1 n0 K h2 n4 len0 a0 g0 first0 capt0 I0 b0 n3 x0 n2 h0))
def slices_partialInsertionSortCmpFunc_api_Objref.k17 (n5 : Int) (I1 : List Value → Hp → Prop) (n4 : Int) (h2 : Hp) (x1 : List Value → Hp → Nat) (h1 : Hp) (n1 : Int) (K : Value → Hp → Prop) (n0 : Int) (len0 : Nat) (a0 : Option Addr) (g0 : Nat) (first0 : Array Value) (capt0 : Array Value) (I0 : List Value → Hp → Prop) (b0 : Bool) (n3 : Int) (x0 : List Value → Hp → Nat) (n2 : Int) (h0 : Hp) : Prop :=
 bcase ((!(decide (n5 < 0))))
 ((slices_partialInsertionSortCmpFunc_api_Objref.k0 I1 n4 h2 x1 h1))
 ((slices_partialInsertionSortCmpFunc_api_Objref.k16 n4 n1 K h2 n0 len0 a0 g0 first0 capt0 I0 b0 n3 x0 n2 h0))
def slices_partialInsertionSortCmpFunc_api_Objref.k18 (n4 : Int) (len0 : Nat) (a0 : Option Addr) (h1 : Hp) (g0 : Nat) (first0 : Array Value) (capt0 : Array Value) (I1 : List Value → Hp → Prop) (x1 : List Value → Hp → Nat) (n1 : Int) (K : Value → Hp → Prop) (n0 : Int) (I0 : List Value → Hp → Prop) (b0 : Bool) (n3 : Int) (x0 : List Value → Hp → Nat) (n2 : Int) (h0 : Hp) : Prop :=
 ((0 : Int) ≤ n4) ∧ (n4 < (len0 : Int)) ∧ someD a0 (fun p0 => (∃ cs0 : Array Value, (CellsAt h1 (p0.add (n4.toNat * 36)) 36 cs0) ∧ ((0 : Int) ≤ (IntKind.wrap .i64 (n4 - 1))) ∧ ((IntKind.wrap .i64 (n4 - 1)) < (len0 : Int)) ∧ someD a0 (fun p1 => (∃ cs1 : Array Value, (CellsAt h1 (p1.add ((IntKind.wrap .i64 (n4 - 1)).toNat * 36)) 36 cs1) ∧ trueD (callable P g0) (HC P g0 (Array.mk (Array.toList first0 ++ ((.agg cs0) :: ((.agg cs1) :: (List.append [] (Array.toList capt0)))))) h1 (fun v0 h2 => (∃ n5 : Int, (v0 = (.int .i64 n5)) ∧ (slices_partialInsertionSortCmpFunc_api_Objref.k17 n5 I1 n4 h2 x1 h1 n1 K n0 len0 a0 g0 first0 capt0 I0 b0 n3 x0 n2 h0))))))))
def slices_partialInsertionSortCmpFunc_api_Objref.k19 (n2 : Int) (h0 : Hp) (n1 : Int) (len0 : Nat) (a0 : Option Addr) (g0 : Nat) (first0 : Array Value) (capt0 : Array Value) (K : Value → Hp → Prop) (n0 : Int) (I0 : List Value → Hp → Prop) (b0 : Bool) (n3 : Int) (x0 : List Value → Hp → Nat) : Prop :=
 (∃ I1 : List Value → Hp → Prop, (∃ x1 : List Value → Hp → Nat, (I1 [.int .i64 n2] h0) ∧ (∀ h1 : Hp, (∀ n4 : Int, (I1 [.int .i64 n4] h1 → bcase (decide (n4 < n1))
 ((slices_partialInsertionSortCmpFunc_api_Objref.k18 n4 len0 a0 h1 g0 first0 capt0 I1 x1 n1 K n0 I0 b0 n3 x0 n2 h0))
 ((slices_partialInsertionSortCmpFunc_api_Objref.k16 n4 n1 K h1 n0 len0 a0 g0 first0 capt0 I0 b0 n3 x0 n2 h0)))))))
def slices_partialInsertionSortCmpFunc_api_Objref (a0 : Option Addr) (len0 : Nat) (cap0 : Nat) (n0 : Int) (n1 : Int) (g0 : Nat) (first0 : Array Value) (capt0 : Array Value) (K : Value → Hp → Prop) (h : Hp) : Prop :=
 (∃ I0 : List Value → Hp → Prop, (∃ x0 : List Value → Hp → Nat, (I0 [.int .i64 (IntKind.wrap .i64 (n0 + 1)), .bool Bool.false, .int .i64 0] h) ∧ (∀ h0 : Hp, (∀ n2 : Int, (∀ b0 : Bool, (∀ n3 : Int, (I0 [.int .i64 n2, .bool b0, .int .i64 n3] h0 → bcase (decide (n3 < 5))
 ((slices_partialInsertionSortCmpFunc_api_Objref.k19 n2 h0 n1 len0 a0 g0 first0 capt0 K n0 I0 b0 n3 x0))
 (K (.bool Bool.false) h0))))))))
theorem slices_partialInsertionSortCmpFunc_api_Objref.hc {a0 : Option Addr} {len0 : Nat} {cap0 : Nat} {n0 : Int} {n1 : Int} {g0 : Nat} {first0 : Array Value} {capt0 : Array Value} {K : Value → Hp → Prop} {h : Hp} (hh : slices_partialInsertionSortCmpFunc_api_Objref a0 len0 cap0 n0 n1 g0 first0 capt0 K h) : HC P slices_partialInsertionSortCmpFunc_api_Objref.n #[.slice a0 len0 cap0, .int .i64 n0, .int .i64 n1, .func (.func g0) first0 capt0] h K :=
  HC_of_den (fn := Go.Proofs.Try.f74) (args := [.slice a0 len0 cap0, .int .i64 n0, .int .i64 n1, .func (.func g0) first0 capt0]) Go.Proofs.Try.func74 rfl (Nat.le_of_ble_eq_true (by kernel_rfl)) (den_cast hh (by kernel_rfl))

def slices_partitionEqualCmpFunc_api_Objref.k0 (I1 : List Value → Hp → Prop) (n5 : Int) (h2 : Hp) (x1 : List Value → Hp → Nat) (h1 : Hp) : Prop :=
 (I1 [.int .i64 (IntKind.wrap .i64 (n5 + 1))] h2) ∧ (x1 [.int .i64 (IntKind.wrap .i64 (n5 + 1))] h2) < (x1 [.int .i64 n5] h1)
def slices_partitionEqualCmpFunc_api_Objref.k1 (I2 : List Value → Hp → Prop) (n7 : Int) (h4 : Hp) (x2 : List Value → Hp → Nat) (h3 : Hp) : Prop :=
 (I2 [.int .i64 (IntKind.wrap .i64 (n7 - 1))] h4) ∧ (x2 [.int .i64 (IntKind.wrap .i64 (n7 - 1))] h4) < (x2 [.int .i64 n7] h3)
def slices_partitionEqualCmpFunc_api_Objref.k2 (n7 : Int) (len0 : Nat) (a0 : Option Addr) (h4 : Hp) (n5 : Int) (I0 : List Value → Hp → Prop) (x0 : List Value → Hp → Nat) (n3 : Int) (n4 : Int) (h0 : Hp) : Prop :=
 ((0 : Int) ≤ n7) ∧ (n7 < (len0 : Int)) ∧ someD a0 (fun p8 => (∃ cs6 : Array Value, (CellsAt h4 (p8.add (n7.toNat * 36)) 36 cs6) ∧ ((0 : Int) ≤ n5) ∧ (n5 < (len0 : Int)) ∧ someD a0 (fun p9 => (∃ cs7 : Array Value, (CellsAt h4 (p9.add (n5.toNat * 36)) 36 cs7) ∧ ((0 : Int) ≤ n5) ∧ (n5 < (len0 : Int)) ∧ someD a0 (fun p10 => (cs6.size = 36) ∧ (∀ v4 : Value, (v4 ∈ (Array.toList cs6 : List Value) → (Den.cellish v4) = Bool.true)) ∧ (Free h4 (p10.add (n5.toNat * 36)) 36) ∧ ((0 : Int) ≤ n7) ∧ (n7 < (len0 : Int)) ∧ someD a0 (fun p11 => (cs7.size = 36) ∧ (∀ v5 : Value, (v5 ∈ (Array.toList cs7 : List Value) → (Den.cellish v5) = Bool.true)) ∧ (Free (h4.setCells (p10.add (n5.toNat * 36)) cs6) (p11.add (n7.toNat * 36)) 36) ∧ (I0 [.int .i64 (IntKind.wrap .i64 (n5 + 1)), .int .i64 (IntKind.wrap .i64 (n7 - 1))] ((h4.setCells (p10.add (n5.toNat * 36)) cs6).setCells (p11.add (n7.toNat * 36)) cs7)) ∧ (x0 [.int .i64 (IntKind.wrap .i64 (n5 + 1)), .int .i64 (IntKind.wrap .i64 (n7 - 1))] ((h4.setCells (p10.add (n5.toNat * 36)) cs6).setCells (p11.add (n7.toNat * 36)) cs7)) < (x0 [.int .i64 n3, .int .i64 n4] h0)))))))
def slices_partitionEqualCmpFunc_api_Objref.k3 (n7 : Int) (n5 : Int) (K : Value → Hp → Prop) (h4 : Hp) (len0 : Nat) (a0 : Option Addr) (I0 : List Value → Hp → Prop) (x0 : List Value → Hp → Nat) (n3 : Int) (n4 : Int) (h0 : Hp) : Prop :=
 bcase (decide (n7 < n5))
 (K (.int .i64 n5) h4)
 ((slices_partitionEqualCmpFunc_api_Objref.k2 n7 len0 a0 h4 n5 I0 x0 n3 n4 h0))
def slices_partitionEqualCmpFunc_api_Objref.k4 (n8 : Int) (I2 : List Value → Hp → Prop) (n7 : Int) (h4 : Hp) (x2 : List Value → Hp → Nat) (h3 : Hp) (n5 : Int) (K : Value → Hp → Prop) (len0 : Nat) (a0 : Option Addr) (I0 : List Value → Hp → Prop) (x0 : List Value → Hp → Nat) (n3 : Int) (n4 : Int) (h0 : Hp) : Prop :=
 bcase (decide (n8 < 0))
 ((slices_partitionEqualCmpFunc_api_Objref.k1 I2 n7 h4 x2 h3))
 ((slices_partitionEqualCmpFunc_api_Objref.k3 n7 n5 K h4 len0 a0 I0 x0 n3 n4 h0))
def slices_partitionEqualCmpFunc_api_Objref.k5 (n0 : Int) (len0 : Nat) (a0 : Option Addr) (h3 : Hp) (n7 : Int) (g0 : Nat) (first0 : Array Value) (capt0 : Array Value) (I2 : List Value → Hp → Prop) (x2 : List Value → Hp → Nat) (n5 : Int) (K : Value → Hp → Prop) (I0 : List Value → Hp → Prop) (x0 : List Value → Hp → Nat) (n3 : Int) (n4 : Int) (h0 : Hp) : Prop :=
 ((0 : Int) ≤ n0) ∧ (n0 < (len0 : Int)) ∧ someD a0 (fun p6 => (∃ cs4 : Array Value, (CellsAt h3 (p6.add (n0.toNat * 36)) 36 cs4) ∧ ((0 : Int) ≤ n7) ∧ (n7 < (len0 : Int)) ∧ someD a0 (fun p7 => (∃ cs5 : Array Value, (CellsAt h3 (p7.add (n7.toNat * 36)) 36 cs5) ∧ trueD (callable P g0) (HC P g0 (Array.mk (Array.toList first0 ++ ((.agg cs4) :: ((.agg cs5) :: (List.append [] (Array.toList capt0)))))) h3 (fun v3 h4 => (∃ n8 : Int, (v3 = (.int .i64 n8)) ∧ (slices_partitionEqualCmpFunc_api_Objref.k4 n8 I2 n7 h4 x2 h3 n5 K len0 a0 I0 x0 n3 n4 h0))))))))
def slices_partitionEqualCmpFunc_api_Objref.k6 (n4 : Int) (h2 : Hp) (n5 : Int) (n0 : Int) (len0 : Nat) (a0 : Option Addr) (g0 : Nat) (first0 : Array Value) (capt0 : Array Value) (K : Value → Hp → Prop) (I0 : List Value → Hp → Prop) (x0 : List Value → Hp → Nat) (n3 : Int) (h0 : Hp) : Prop :=
 (∃ I2 : List Value → Hp → Prop, (∃ x2 : List Value → Hp → Nat, (I2 [.int .i64 n4] h2) ∧ (∀ h3 : Hp, (∀ n7 : Int, (I2 [.int .i64 n7] h3 → bcase (decide (n5 ≤ n7))
 ((slices_partitionEqualCmpFunc_api_Objref.k5 n0 len0 a0 h3 n7 g0 first0 capt0 I2 x2 n5 K I0 x0 n3 n4 h0))
 ((slices_partitionEqualCmpFunc_api_Objref.k3 n7 n5 K h3 len0 a0 I0 x0 n3 n4 h0)))))))
def slices_partitionEqualCmpFunc_api_Objref.k7 (n6 : Int) (I1 : List Value → Hp → Prop) (n5 : Int) (h2 : Hp) (x1 : List Value → Hp → Nat) (h1 : Hp) (n4 : Int) (n0 : Int) (len0 : Nat) (a0 : Option Addr) (g0 : Nat) (first0 : Array Value) (capt0 : Array Value) (K : Value → Hp → Prop) (I0 : List Value → Hp → Prop) (x0 : List Value → Hp → Nat) (n3 : Int) (h0 : Hp) : Prop :=
 bcase ((!(decide (n6 < 0))))
 ((slices_partitionEqualCmpFunc_api_Objref.k0 I1 n5 h2 x1 h1))
 ((slices_partitionEqualCmpFunc_api_Objref.k6 n4 h2 n5 n0 len0 a0 g0 first0 capt0 K I0 x0 n3 h0))
def slices_partitionEqualCmpFunc_api_Objref.k8 (n0 : Int) (len0 : Nat) (a0 : Option Addr) (h1 : Hp) (n5 : Int) (g0 : Nat) (first0 : Array Value) (capt0 : Array Value) (I1 : List Value → Hp → Prop) (x1 : List Value → Hp → Nat) (n4 : Int) (K : Value → Hp → Prop) (I0 : List Value → Hp → Prop) (x0 : List Value → Hp → Nat) (n3 : Int) (h0 : Hp) : Prop :=
 ((0 : Int) ≤ n0) ∧ (n0 < (len0 : Int)) ∧ someD a0 (fun p4 => (∃ cs2 : Array Value, (CellsAt h1 (p4.add (n0.toNat * 36)) 36 cs2) ∧ ((0 : Int) ≤ n5) ∧ (n5 < (len0 : Int)) ∧ someD a0 (fun p5 => (∃ cs3 : Array Value, (CellsAt h1 (p5.add (n5.toNat * 36)) 36 cs3) ∧ trueD (callable P g0) (HC P g0 (Array.mk (Array.toList first0 ++ ((.agg cs2) :: ((.agg cs3) :: (List.append [] (Array.toList capt0)))))) h1 (fun v2 h2 => (∃ n6 : Int, (v2 = (.int .i64 n6)) ∧ (slices_partitionEqualCmpFunc_api_Objref.k7 n6 I1 n5 h2 x1 h1 n4 n0 len0 a0 g0 first0 capt0 K I0 x0 n3 h0))))))))
def slices_partitionEqualCmpFunc_api_Objref (a0 : Option Addr) (len0 : Nat) (cap0 : Nat) (n0 : Int) (n1 : Int) (n2 : Int) (g0 : Nat) (first0 : Array Value) (capt0 : Array Value) (K : Value → Hp → Prop) (h : Hp) : Prop :=
 ((0 : Int) ≤ n2) ∧ (n2 < (len0 : Int)) ∧ someD a0 (fun p0 => (∃ cs0 : Array Value, (CellsAt h (p0.add (n2.toNat * 36)) 36 cs0) ∧ ((0 : Int) ≤ n0) ∧ (n0 < (len0 : Int)) ∧ someD a0 (fun p1 => (∃ cs1 : Array Value, (CellsAt h (p1.add (n0.toNat * 36)) 36 cs1) ∧ ((0 : Int) ≤ n0) ∧ (n0 < (len0 : Int)) ∧ someD a0 (fun p2 => (cs0.size = 36) ∧ (∀ v0 : Value, (v0 ∈ (Array.toList cs0 : List Value) → (Den.cellish v0) = Bool.true)) ∧ (Free h (p2.add (n0.toNat * 36)) 36) ∧ ((0 : Int) ≤ n2) ∧ (n2 < (len0 : Int)) ∧ someD a0 (fun p3 => (cs1.size = 36) ∧ (∀ v1 : Value, (v1 ∈ (Array.toList cs1 : List Value) → (Den.cellish v1) = Bool.true)) ∧ (Free (h.setCells (p2.add (n0.toNat * 36)) cs0) (p3.add (n2.toNat * 36)) 36) ∧ (∃ I0 : List Value → Hp → Prop, (∃ x0 : List Value → Hp → Nat, (I0 [.int .i64 (IntKind.wrap .i64 (n0 + 1)), .int .i64 (IntKind.wrap .i64 (n1 - 1))] ((h.setCells (p2.add (n0.toNat * 36)) cs0).setCells (p3.add (n2.toNat * 36)) cs1)) ∧ (∀ h0 : Hp, (∀ n3 : Int, (∀ n4 : Int, (I0 [.int .i64 n3, .int .i64 n4] h0 → (∃ I1 : List Value → Hp → Prop, (∃ x1 : List Value → Hp → Nat, (I1 [.int .i64 n3] h0) ∧ (∀ h1 : Hp, (∀ n5 : Int, (I1 [.int .i64 n5] h1 → bcase (decide (n5 ≤ n4))
 ((slices_partitionEqualCmpFunc_api_Objref.k8 n0 len0 a0 h1 n5 g0 first0 capt0 I1 x1 n4 K I0 x0 n3 h0))
 ((slices_partitionEqualCmpFunc_api_Objref.k6 n4 h1 n5 n0 len0 a0 g0 first0 capt0 K I0 x0 n3 h0)))))))))))))))))))
theorem slices_partitionEqualCmpFunc_api_Objref.hc {a0 : Option Addr} {len0 : Nat} {cap0 : Nat} {n0 : Int} {n1 : Int} {n2 : Int} {g0 : Nat} {first0 : Array Value} {capt0 : Array Value} {K : Value → Hp → Prop} {h : Hp} (hh : slices_partitionEqualCmpFunc_api_Objref a0 len0 cap0 n0 n1 n2 g0 first0 capt0 K h) : HC P slices_partitionEqualCmpFunc_api_Objref.n #[.slice a0 len0 cap0, .int .i64 n0, .int .i64 n1, .int .i64 n2, .func (.func g0) first0 capt0] h K :=
  HC_of_den (fn := Go.Proofs.Try.f75) (args := [.slice a0 len0 cap0, .int .i64 n0, .int .i64 n1, .int .i64 n2, .func (.func g0) first0 capt0]) Go.Proofs.Try.func75 rfl (Nat.le_of_ble_eq_true (by kernel_rfl)) (den_cast hh (by kernel_rfl))

def slices_partitionCmpFunc_api_Objref.k0 (I0 : List Value → Hp → Prop) (n3 : Int) (h1 : Hp) (x0 : List Value → Hp → Nat) (h0 : Hp) : Prop :=
 (I0 [.int .i64 (IntKind.wrap .i64 (n3 + 1))] h1) ∧ (x0 [.int .i64 (IntKind.wrap .i64 (n3 + 1))] h1) < (x0 [.int .i64 n3] h0)
def slices_partitionCmpFunc_api_Objref.k1 (I1 : List Value → Hp → Prop) (n5 : Int) (h3 : Hp) (x1 : List Value → Hp → Nat) (h2 : Hp) : Prop :=
 (I1 [.int .i64 (IntKind.wrap .i64 (n5 - 1))] h3) ∧ (x1 [.int .i64 (IntKind.wrap .i64 (n5 - 1))] h3) < (x1 [.int .i64 n5] h2)
def slices_partitionCmpFunc_api_Objref.k2 (n0 : Int) (len0 : Nat) (a0 : Option Addr) (h3 : Hp) (n5 : Int) (K : Value → Hp → Prop) : Prop :=
 ((0 : Int) ≤ n0) ∧ (n0 < (len0 : Int)) ∧ someD a0 (fun p8 => (∃ cs6 : Array Value, (CellsAt h3 (p8.add (n0.toNat * 36)) 36 cs6) ∧ ((0 : Int) ≤ n5) ∧ (n5 < (len0 : Int)) ∧ someD a0 (fun p9 => (∃ cs7 : Array Value, (CellsAt h3 (p9.add (n5.toNat * 36)) 36 cs7) ∧ ((0 : Int) ≤ n5) ∧ (n5 < (len0 : Int)) ∧ someD a0 (fun p10 => (cs6.size = 36) ∧ (∀ v4 : Value, (v4 ∈ (Array.toList cs6 : List Value) → (Den.cellish v4) = Bool.true)) ∧ (Free h3 (p10.add (n5.toNat * 36)) 36) ∧ ((0 : Int) ≤ n0) ∧ (n0 < (len0 : Int)) ∧ someD a0 (fun p11 => (cs7.size = 36) ∧ (∀ v5 : Value, (v5 ∈ (Array.toList cs7 : List Value) → (Den.cellish v5) = Bool.true)) ∧ (Free (h3.setCells (p10.add (n5.toNat * 36)) cs6) (p11.add (n0.toNat * 36)) 36) ∧ K (.tuple #[.int .i64 n5, .bool Bool.true]) ((h3.setCells (p10.add (n5.toNat * 36)) cs6).setCells (p11.add (n0.toNat * 36)) cs7)))))))
def slices_partitionCmpFunc_api_Objref.k3 (n0 : Int) (len0 : Nat) (a0 : Option Addr) (h8 : Hp) (n11 : Int) (K : Value → Hp → Prop) : Prop :=
 ((0 : Int) ≤ n0) ∧ (n0 < (len0 : Int)) ∧ someD a0 (fun p20 => (∃ cs14 : Array Value, (CellsAt h8 (p20.add (n0.toNat * 36)) 36 cs14) ∧ ((0 : Int) ≤ n11) ∧ (n11 < (len0 : Int)) ∧ someD a0 (fun p21 => (∃ cs15 : Array Value, (CellsAt h8 (p21.add (n11.toNat * 36)) 36 cs15) ∧ ((0 : Int) ≤ n11) ∧ (n11 < (len0 : Int)) ∧ someD a0 (fun p22 => (cs14.size = 36) ∧ (∀ v10 : Value, (v10 ∈ (Array.toList cs14 : List Value) → (Den.cellish v10) = Bool.true)) ∧ (Free h8 (p22.add (n11.toNat * 36)) 36) ∧ ((0 : Int) ≤ n0) ∧ (n0 < (len0 : Int)) ∧ someD a0 (fun p23 => (cs15.size = 36) ∧ (∀ v11 : Value, (v11 ∈ (Array.toList cs15 : List Value) → (Den.cellish v11) = Bool.true)) ∧ (Free (h8.setCells (p22.add (n11.toNat * 36)) cs14) (p23.add (n0.toNat * 36)) 36) ∧ K (.tuple #[.int .i64 n11, .bool Bool.false]) ((h8.setCells (p22.add (n11.toNat * 36)) cs14).setCells (p23.add (n0.toNat * 36)) cs15)))))))
def slices_partitionCmpFunc_api_Objref.k4 (n11 : Int) (len0 : Nat) (a0 : Option Addr) (h8 : Hp) (n9 : Int) (I2 : List Value → Hp → Prop) (x2 : List Value → Hp → Nat) (n7 : Int) (n8 : Int) (h4 : Hp) : Prop :=
 ((0 : Int) ≤ n11) ∧ (n11 < (len0 : Int)) ∧ someD a0 (fun p24 => (∃ cs16 : Array Value, (CellsAt h8 (p24.add (n11.toNat * 36)) 36 cs16) ∧ ((0 : Int) ≤ n9) ∧ (n9 < (len0 : Int)) ∧ someD a0 (fun p25 => (∃ cs17 : Array Value, (CellsAt h8 (p25.add (n9.toNat * 36)) 36 cs17) ∧ ((0 : Int) ≤ n9) ∧ (n9 < (len0 : Int)) ∧ someD a0 (fun p26 => (cs16.size = 36) ∧ (∀ v12 : Value, (v12 ∈ (Array.toList cs16 : List Value) → (Den.cellish v12) = Bool.true)) ∧ (Free h8 (p26.add (n9.toNat * 36)) 36) ∧ ((0 : Int) ≤ n11) ∧ (n11 < (len0 : Int)) ∧ someD a0 (fun p27 => (cs17.size = 36) ∧ (∀ v13 : Value, (v13 ∈ (Array.toList cs17 : List Value) → (Den.cellish v13) = Bool.true)) ∧ (Free (h8.setCells (p26.add (n9.toNat * 36)) cs16) (p27.add (n11.toNat * 36)) 36) ∧ (I2 [.int .i64 (IntKind.wrap .i64 (n9 + 1)), .int .i64 (IntKind.wrap .i64 (n11 - 1))] ((h8.setCells (p26.add (n9.toNat * 36)) cs16).setCells (p27.add (n11.toNat * 36)) cs17)) ∧ (x2 [.int .i64 (IntKind.wrap .i64 (n9 + 1)), .int .i64 (IntKind.wrap .i64 (n11 - 1))] ((h8.setCells (p26.add (n9.toNat * 36)) cs16).setCells (p27.add (n11.toNat * 36)) cs17)) < (x2 [.int .i64 n7, .int .i64 n8] h4)))))))
def slices_partitionCmpFunc_api_Objref.k5 (n11 : Int) (n9 : Int) (n0 : Int) (len0 : Nat) (a0 : Option Addr) (h8 : Hp) (K : Value → Hp → Prop) (I2 : List Value → Hp → Prop) (x2 : List Value → Hp → Nat) (n7 : Int) (n8 : Int) (h4 : Hp) : Prop :=
 bcase (decide (n11 < n9))
 ((slices_partitionCmpFunc_api_Objref.k3 n0 len0 a0 h8 n11 K))
 ((slices_partitionCmpFunc_api_Objref.k4 n11 len0 a0 h8 n9 I2 x2 n7 n8 h4))
def slices_partitionCmpFunc_api_Objref.k6 (n12 : Int) (I4 : List Value → Hp → Prop) (n11 : Int) (h8 : Hp) (x4 : List Value → Hp → Nat) (h7 : Hp) (n9 : Int) (n0 : Int) (len0 : Nat) (a0 : Option Addr) (K : Value → Hp → Prop) (I2 : List Value → Hp → Prop) (x2 : List Value → Hp → Nat) (n7 : Int) (n8 : Int) (h4 : Hp) : Prop :=
 bcase ((!(decide (n12 < 0))))
 ((slices_partitionCmpFunc_api_Objref.k1 I4 n11 h8 x4 h7))
 ((slices_partitionCmpFunc_api_Objref.k5 n11 n9 n0 len0 a0 h8 K I2 x2 n7 n8 h4))
def slices_partitionCmpFunc_api_Objref.k7 (n11 : Int) (len0 : Nat) (a0 : Option Addr) (h7 : Hp) (n0 : Int) (g0 : Nat) (first0 : Array Value) (capt0 : Array Value) (I4 : List Value → Hp → Prop) (x4 : List Value → Hp → Nat) (n9 : Int) (K : Value → Hp → Prop) (I2 : List Value → Hp → Prop) (x2 : List Value → Hp → Nat) (n7 : Int) (n8 : Int) (h4 : Hp) : Prop :=
 ((0 : Int) ≤ n11) ∧ (n11 < (len0 : Int)) ∧ someD a0 (fun p18 => (∃ cs12 : Array Value, (CellsAt h7 (p18.add (n11.toNat * 36)) 36 cs12) ∧ ((0 : Int) ≤ n0) ∧ (n0 < (len0 : Int)) ∧ someD a0 (fun p19 => (∃ cs13 : Array Value, (CellsAt h7 (p19.add (n0.toNat * 36)) 36 cs13) ∧ trueD (callable P g0) (HC P g0 (Array.mk (Array.toList first0 ++ ((.agg cs12) :: ((.agg cs13) :: (List.append [] (Array.toList capt0)))))) h7 (fun v9 h8 => (∃ n12 : Int, (v9 = (.int .i64 n12)) ∧ (slices_partitionCmpFunc_api_Objref.k6 n12 I4 n11 h8 x4 h7 n9 n0 len0 a0 K I2 x2 n7 n8 h4))))))))
def slices_partitionCmpFunc_api_Objref.k8 (n8 : Int) (h6 : Hp) (n9 : Int) (len0 : Nat) (a0 : Option Addr) (n0 : Int) (g0 : Nat) (first0 : Array Value) (capt0 : Array Value) (K : Value → Hp → Prop) (I2 : List Value → Hp → Prop) (x2 : List Value → Hp → Nat) (n7 : Int) (h4 : Hp) : Prop :=
 (∃ I4 : List Value → Hp → Prop, (∃ x4 : List Value → Hp → Nat, (I4 [.int .i64 n8] h6) ∧ (∀ h7 : Hp, (∀ n11 : Int, (I4 [.int .i64 n11] h7 → bcase (decide (n9 ≤ n11))
 ((slices_partitionCmpFunc_api_Objref.k7 n11 len0 a0 h7 n0 g0 first0 capt0 I4 x4 n9 K I2 x2 n7 n8 h4))
 ((slices_partitionCmpFunc_api_Objref.k5 n11 n9 n0 len0 a0 h7 K I2 x2 n7 n8 h4)))))))
def slices_partitionCmpFunc_api_Objref.k9 (n10 : Int) (I3 : List Value → Hp → Prop) (n9 : Int) (h6 : Hp) (x3 : List Value → Hp → Nat) (h5 : Hp) (n8 : Int) (len0 : Nat) (a0 : Option Addr) (n0 : Int) (g0 : Nat) (first0 : Array Value) (capt0 : Array Value) (K : Value → Hp → Prop) (I2 : List Value → Hp → Prop) (x2 : List Value → Hp → Nat) (n7 : Int) (h4 : Hp) : Prop :=
 bcase (decide (n10 < 0))
 ((slices_partitionCmpFunc_api_Objref.k0 I3 n9 h6 x3 h5))
 ((slices_partitionCmpFunc_api_Objref.k8 n8 h6 n9 len0 a0 n0 g0 first0 capt0 K I2 x2 n7 h4))
def slices_partitionCmpFunc_api_Objref.k10 (n9 : Int) (len0 : Nat) (a0 : Option Addr) (h5 : Hp) (n0 : Int) (g0 : Nat) (first0 : Array Value) (capt0 : Array Value) (I3 : List Value → Hp → Prop) (x3 : List Value → Hp → Nat) (n8 : Int) (K : Value → Hp → Prop) (I2 : List Value → Hp → Prop) (x2 : List Value → Hp → Nat) (n7 : Int) (h4 : Hp) : Prop :=
 ((0 : Int) ≤ n9) ∧ (n9 < (len0 : Int)) ∧ someD a0 (fun p16 => (∃ cs10 : Array Value, (CellsAt h5 (p16.add (n9.toNat * 36)) 36 cs10) ∧ ((0 : Int) ≤ n0) ∧ (n0 < (len0 : Int)) ∧ someD a0 (fun p17 => (∃ cs11 : Array Value, (CellsAt h5 (p17.add (n0.toNat * 36)) 36 cs11) ∧ trueD (callable P g0) (HC P g0 (Array.mk (Array.toList first0 ++ ((.agg cs10) :: ((.agg cs11) :: (List.append [] (Array.toList capt0)))))) h5 (fun v8 h6 => (∃ n10 : Int, (v8 = (.int .i64 n10)) ∧ (slices_partitionCmpFunc_api_Objref.k9 n10 I3 n9 h6 x3 h5 n8 len0 a0 n0 g0 first0 capt0 K I2 x2 n7 h4))))))))
def slices_partitionCmpFunc_api_Objref.k11 (n5 : Int) (len0 : Nat) (a0 : Option Addr) (h3 : Hp) (n3 : Int) (n0 : Int) (g0 : Nat) (first0 : Array Value) (capt0 : Array Value) (K : Value → Hp → Prop) : Prop :=
 ((0 : Int) ≤ n5) ∧ (n5 < (len0 : Int)) ∧ someD a0 (fun p12 => (∃ cs8 : Array Value, (CellsAt h3 (p12.add (n5.toNat * 36)) 36 cs8) ∧ ((0 : Int) ≤ n3) ∧ (n3 < (len0 : Int)) ∧ someD a0 (fun p13 => (∃ cs9 : Array Value, (CellsAt h3 (p13.add (n3.toNat * 36)) 36 cs9) ∧ ((0 : Int) ≤ n3) ∧ (n3 < (len0 : Int)) ∧ someD a0 (fun p14 => (cs8.size = 36) ∧ (∀ v6 : Value, (v6 ∈ (Array.toList cs8 : List Value) → (Den.cellish v6) = Bool.true)) ∧ (Free h3 (p14.add (n3.toNat * 36)) 36) ∧ ((0 : Int) ≤ n5) ∧ (n5 < (len0 : Int)) ∧ someD a0 (fun p15 => (cs9.size = 36) ∧ (∀ v7 : Value, (v7 ∈ (Array.toList cs9 : List Value) → (Den.cellish v7) = Bool.true)) ∧ (Free (h3.setCells (p14.add (n3.toNat * 36)) cs8) (p15.add (n5.toNat * 36)) 36) ∧ (∃ I2 : List Value → Hp → Prop, (∃ x2 : List Value → Hp → Nat, (I2 [.int .i64 (IntKind.wrap .i64 (n3 + 1)), .int .i64 (IntKind.wrap .i64 (n5 - 1))] ((h3.setCells (p14.add (n3.toNat * 36)) cs8).setCells (p15.add (n5.toNat * 36)) cs9)) ∧ (∀ h4 : Hp, (∀ n7 : Int, (∀ n8 : Int, (I2 [.int .i64 n7, .int .i64 n8] h4 → (∃ I3 : List Value → Hp → Prop, (∃ x3 : List Value → Hp → Nat, (I3 [.int .i64 n7] h4) ∧ (∀ h5 : Hp, (∀ n9 : Int, (I3 [.int .i64 n9] h5 → bcase (decide (n9 ≤ n8))
 ((slices_partitionCmpFunc_api_Objref.k10 n9 len0 a0 h5 n0 g0 first0 capt0 I3 x3 n8 K I2 x2 n7 h4))
 ((slices_partitionCmpFunc_api_Objref.k8 n8 h5 n9 len0 a0 n0 g0 first0 capt0 K I2 x2 n7 h4)))))))))))))))))))
def slices_partitionCmpFunc_api_Objref.k12 (n5 : Int) (n3 : Int) (n0 : Int) (len0 : Nat) (a0 : Option Addr) (h3 : Hp) (K : Value → Hp → Prop) (g0 : Nat) (first0 : Array Value) (capt0 : Array Value) : Prop :=
 bcase (decide (n5 < n3))
 ((slices_partitionCmpFunc_api_Objref.k2 n0 len0 a0 h3 n5 K))
 ((slices_partitionCmpFunc_api_Objref.k11 n5 len0 a0 h3 n3 n0 g0 first0 capt0 K))
def slices_partitionCmpFunc_api_Objref.k13 (n6 : Int) (I1 : List Value → Hp → Prop) (n5 : Int) (h3 : Hp) (x1 : List Value → Hp → Nat) (h2 : Hp) (n3 : Int) (n0 : Int) (len0 : Nat) (a0 : Option Addr) (K : Value → Hp → Prop) (g0 : Nat) (first0 : Array Value) (capt0 : Array Value) : Prop :=
 bcase ((!(decide (n6 < 0))))
 ((slices_partitionCmpFunc_api_Objref.k1 I1 n5 h3 x1 h2))
 ((slices_partitionCmpFunc_api_Objref.k12 n5 n3 n0 len0 a0 h3 K g0 first0 capt0))
def slices_partitionCmpFunc_api_Objref.k14 (n5 : Int) (len0 : Nat) (a0 : Option Addr) (h2 : Hp) (n0 : Int) (g0 : Nat) (first0 : Array Value) (capt0 : Array Value) (I1 : List Value → Hp → Prop) (x1 : List Value → Hp → Nat) (n3 : Int) (K : Value → Hp → Prop) : Prop :=
 ((0 : Int) ≤ n5) ∧ (n5 < (len0 : Int)) ∧ someD a0 (fun p6 => (∃ cs4 : Array Value, (CellsAt h2 (p6.add (n5.toNat * 36)) 36 cs4) ∧ ((0 : Int) ≤ n0) ∧ (n0 < (len0 : Int)) ∧ someD a0 (fun p7 => (∃ cs5 : Array Value, (CellsAt h2 (p7.add (n0.toNat * 36)) 36 cs5) ∧ trueD (callable P g0) (HC P g0 (Array.mk (Array.toList first0 ++ ((.agg cs4) :: ((.agg cs5) :: (List.append [] (Array.toList capt0)))))) h2 (fun v3 h3 => (∃ n6 : Int, (v3 = (.int .i64 n6)) ∧ (slices_partitionCmpFunc_api_Objref.k13 n6 I1 n5 h3 x1 h2 n3 n0 len0 a0 K g0 first0 capt0))))))))
def slices_partitionCmpFunc_api_Objref.k15 (n1 : Int) (h1 : Hp) (n3 : Int) (len0 : Nat) (a0 : Option Addr) (n0 : Int) (g0 : Nat) (first0 : Array Value) (capt0 : Array Value) (K : Value → Hp → Prop) : Prop :=
 (∃ I1 : List Value → Hp → Prop, (∃ x1 : List Value → Hp → Nat, (I1 [.int .i64 (IntKind.wrap .i64 (n1 - 1))] h1) ∧ (∀ h2 : Hp, (∀ n5 : Int, (I1 [.int .i64 n5] h2 → bcase (decide (n3 ≤ n5))
 ((slices_partitionCmpFunc_api_Objref.k14 n5 len0 a0 h2 n0 g0 first0 capt0 I1 x1 n3 K))
 ((slices_partitionCmpFunc_api_Objref.k12 n5 n3 n0 len0 a0 h2 K g0 first0 capt0)))))))
def slices_partitionCmpFunc_api_Objref.k16 (n4 : Int) (I0 : List Value → Hp → Prop) (n3 : Int) (h1 : Hp) (x0 : List Value → Hp → Nat) (h0 : Hp) (n1 : Int) (len0 : Nat) (a0 : Option Addr) (n0 : Int) (g0 : Nat) (first0 : Array Value) (capt0 : Array Value) (K : Value → Hp → Prop) : Prop :=
 bcase (decide (n4 < 0))
 ((slices_partitionCmpFunc_api_Objref.k0 I0 n3 h1 x0 h0))
 ((slices_partitionCmpFunc_api_Objref.k15 n1 h1 n3 len0 a0 n0 g0 first0 capt0 K))
def slices_partitionCmpFunc_api_Objref.k17 (n3 : Int) (len0 : Nat) (a0 : Option Addr) (h0 : Hp) (n0 : Int) (g0 : Nat) (first0 : Array Value) (capt0 : Array Value) (I0 : List Value → Hp → Prop) (x0 : List Value → Hp → Nat) (n1 : Int) (K : Value → Hp → Prop) : Prop :=
 ((0 : Int) ≤ n3) ∧ (n3 < (len0 : Int)) ∧ someD a0 (fun p4 => (∃ cs2 : Array Value, (CellsAt h0 (p4.add (n3.toNat * 36)) 36 cs2) ∧ ((0 : Int) ≤ n0) ∧ (n0 < (len0 : Int)) ∧ someD a0 (fun p5 => (∃ cs3 : Array Value, (CellsAt h0 (p5.add (n0.toNat * 36)) 36 cs3) ∧ trueD (callable P g0) (HC P g0 (Array.mk (Array.toList first0 ++ ((.agg cs2) :: ((.agg cs3) :: (List.append [] (Array.toList capt0)))))) h0 (fun v2 h1 => (∃ n4 : Int, (v2 = (.int .i64 n4)) ∧ (slices_partitionCmpFunc_api_Objref.k16 n4 I0 n3 h1 x0 h0 n1 len0 a0 n0 g0 first0 capt0 K))))))))
def slices_partitionCmpFunc_api_Objref (a0 : Option Addr) (len0 : Nat) (cap0 : Nat) (n0 : Int) (n1 : Int) (n2 : Int) (g0 : Nat) (first0 : Array Value) (capt0 : Array Value) (K : Value → Hp → Prop) (h : Hp) : Prop :=
 ((0 : Int) ≤ n2) ∧ (n2 < (len0 : Int)) ∧ someD a0 (fun p0 => (∃ cs0 : Array Value, (CellsAt h (p0.add (n2.toNat * 36)) 36 cs0) ∧ ((0 : Int) ≤ n0) ∧ (n0 < (len0 : Int)) ∧ someD a0 (fun p1 => (∃ cs1 : Array Value, (CellsAt h (p1.add (n0.toNat * 36)) 36 cs1) ∧ ((0 : Int) ≤ n0) ∧ (n0 < (len0 : Int)) ∧ someD a0 (fun p2 => (cs0.size = 36) ∧ (∀ v0 : Value, (v0 ∈ (Array.toList cs0 : List Value) → (Den.cellish v0) = Bool.true)) ∧ (Free h (p2.add (n0.toNat * 36)) 36) ∧ ((0 : Int) ≤ n2) ∧ (n2 < (len0 : Int)) ∧ someD a0 (fun p3 => (cs1.size = 36) ∧ (∀ v1 : Value, (v1 ∈ (Array.toList cs1 : List Value) → (Den.cellish v1) = Bool.true)) ∧ (Free (h.setCells (p2.add (n0.toNat * 36)) cs0) (p3.add (n2.toNat * 36)) 36) ∧ (∃ I0 : List Value → Hp → Prop, (∃ x0 : List Value → Hp → Nat, (I0 [.int .i64 (IntKind.wrap .i64 (n0 + 1))] ((h.setCells (p2.add (n0.toNat * 36)) cs0).setCells (p3.add (n2.toNat * 36)) cs1)) ∧ (∀ h0 : Hp, (∀ n3 : Int, (I0 [.int .i64 n3] h0 → bcase (decide (n3 ≤ (IntKind.wrap .i64 (n1 - 1))))
 ((slices_partitionCmpFunc_api_Objref.k17 n3 len0 a0 h0 n0 g0 first0 capt0 I0 x0 n1 K))
 ((slices_partitionCmpFunc_api_Objref.k15 n1 h0 n3 len0 a0 n0 g0 first0 capt0 K)))))))))))))
theorem slices_partitionCmpFunc_api_Objref.hc {a0 : Option Addr} {len0 : Nat} {cap0 : Nat} {n0 : Int} {n1 : Int} {n2 : Int} {g0 : Nat} {first0 : Array Value} {capt0 : Array Value} {K : Value → Hp → Prop} {h : Hp} (hh : slices_partitionCmpFunc_api_Objref a0 len0 cap0 n0 n1 n2 g0 first0 capt0 K h) : HC P slices_partitionCmpFunc_api_Objref.n #[.slice a0 len0 cap0, .int .i64 n0, .int .i64 n1, .int .i64 n2, .func (.func g0) first0 capt0] h K :=
  HC_of_den (fn := Go.Proofs.Try.f76) (args := [.slice a0 len0 cap0, .int .i64 n0, .int .i64 n1, .int .i64 n2, .func (.func g0) first0 capt0]) Go.Proofs.Try.func76 rfl (Nat.le_of_ble_eq_true (by kernel_rfl)) (den_cast hh (by kernel_rfl))

def slices_siftDownCmpFunc_api_Objref.k0 (n2 : Int) (n3 : Int) (len0 : Nat) (a0 : Option Addr) (h2 : Hp) (I0 : List Value → Hp → Prop) (x0 : List Value → Hp → Nat) (h0 : Hp) : Prop :=
 ((0 : Int) ≤ (IntKind.wrap .i64 (n2 + (IntKind.wrap .i64 ((IntKind.wrap .i64 ((IntKind.wrap .i64 (2 * n3)) + 1)) + 1))))) ∧ ((IntKind.wrap .i64 (n2 + (IntKind.wrap .i64 ((IntKind.wrap .i64 ((IntKind.wrap .i64 (2 * n3)) + 1)) + 1)))) < (len0 : Int)) ∧ someD a0 (fun p4 => (∃ cs4 : Array Value, (CellsAt h2 (p4.add ((IntKind.wrap .i64 (n2 + (IntKind.wrap .i64 ((IntKind.wrap .i64 ((IntKind.wrap .i64 (2 * n3)) + 1)) + 1)))).toNat * 36)) 36 cs4) ∧ ((0 : Int) ≤ (IntKind.wrap .i64 (n2 + n3))) ∧ ((IntKind.wrap .i64 (n2 + n3)) < (len0 : Int)) ∧ someD a0 (fun p5 => (∃ cs5 : Array Value, (CellsAt h2 (p5.add ((IntKind.wrap .i64 (n2 + n3)).toNat * 36)) 36 cs5) ∧ ((0 : Int) ≤ (IntKind.wrap .i64 (n2 + n3))) ∧ ((IntKind.wrap .i64 (n2 + n3)) < (len0 : Int)) ∧ someD a0 (fun p6 => (cs4.size = 36) ∧ (∀ v2 : Value, (v2 ∈ (Array.toList cs4 : List Value) → (Den.cellish v2) = Bool.true)) ∧ (Free h2 (p6.add ((IntKind.wrap .i64 (n2 + n3)).toNat * 36)) 36) ∧ ((0 : Int) ≤ (IntKind.wrap .i64 (n2 + (IntKind.wrap .i64 ((IntKind.wrap .i64 ((IntKind.wrap .i64 (2 * n3)) + 1)) + 1))))) ∧ ((IntKind.wrap .i64 (n2 + (IntKind.wrap .i64 ((IntKind.wrap .i64 ((IntKind.wrap .i64 (2 * n3)) + 1)) + 1)))) < (len0 : Int)) ∧ someD a0 (fun p7 => (cs5.size = 36) ∧ (∀ v3 : Value, (v3 ∈ (Array.toList cs5 : List Value) → (Den.cellish v3) = Bool.true)) ∧ (Free (h2.setCells (p6.add ((IntKind.wrap .i64 (n2 + n3)).toNat * 36)) cs4) (p7.add ((IntKind.wrap .i64 (n2 + (IntKind.wrap .i64 ((IntKind.wrap .i64 ((IntKind.wrap .i64 (2 * n3)) + 1)) + 1)))).toNat * 36)) 36) ∧ (I0 [.int .i64 (IntKind.wrap .i64 ((IntKind.wrap .i64 ((IntKind.wrap .i64 (2 * n3)) + 1)) + 1))] ((h2.setCells (p6.add ((IntKind.wrap .i64 (n2 + n3)).toNat * 36)) cs4).setCells (p7.add ((IntKind.wrap .i64 (n2 + (IntKind.wrap .i64 ((IntKind.wrap .i64 ((IntKind.wrap .i64 (2 * n3)) + 1)) + 1)))).toNat * 36)) cs5)) ∧ (x0 [.int .i64 (IntKind.wrap .i64 ((IntKind.wrap .i64 ((IntKind.wrap .i64 (2 * n3)) + 1)) + 1))] ((h2.setCells (p6.add ((IntKind.wrap .i64 (n2 + n3)).toNat * 36)) cs4).setCells (p7.add ((IntKind.wrap .i64 (n2 + (IntKind.wrap .i64 ((IntKind.wrap .i64 ((IntKind.wrap .i64 (2 * n3)) + 1)) + 1)))).toNat * 36)) cs5)) < (x0 [.int .i64 n3] h0)))))))
def slices_siftDownCmpFunc_api_Objref.k1 (n5 : Int) (K : Value → Hp → Prop) (h2 : Hp) (n2 : Int) (n3 : Int) (len0 : Nat) (a0 : Option Addr) (I0 : List Value → Hp → Prop) (x0 : List Value → Hp → Nat) (h0 : Hp) : Prop :=
 bcase ((!(decide (n5 < 0))))
 (K (.tuple #[]) h2)
 ((slices_siftDownCmpFunc_api_Objref.k0 n2 n3 len0 a0 h2 I0 x0 h0))
def slices_siftDownCmpFunc_api_Objref.k2 (n2 : Int) (n3 : Int) (len0 : Nat) (a0 : Option Addr) (h1 : Hp) (g0 : Nat) (first0 : Array Value) (capt0 : Array Value) (K : Value → Hp → Prop) (I0 : List Value → Hp → Prop) (x0 : List Value → Hp → Nat) (h0 : Hp) : Prop :=
 ((0 : Int) ≤ (IntKind.wrap .i64 (n2 + n3))) ∧ ((IntKind.wrap .i64 (n2 + n3)) < (len0 : Int)) ∧ someD a0 (fun p2 => (∃ cs2 : Array Value, (CellsAt h1 (p2.add ((IntKind.wrap .i64 (n2 + n3)).toNat * 36)) 36 cs2) ∧ ((0 : Int) ≤ (IntKind.wrap .i64 (n2 + (IntKind.wrap .i64 ((IntKind.wrap .i64 ((IntKind.wrap .i64 (2 * n3)) + 1)) + 1))))) ∧ ((IntKind.wrap .i64 (n2 + (IntKind.wrap .i64 ((IntKind.wrap .i64 ((IntKind.wrap .i64 (2 * n3)) + 1)) + 1)))) < (len0 : Int)) ∧ someD a0 (fun p3 => (∃ cs3 : Array Value, (CellsAt h1 (p3.add ((IntKind.wrap .i64 (n2 + (IntKind.wrap .i64 ((IntKind.wrap .i64 ((IntKind.wrap .i64 (2 * n3)) + 1)) + 1)))).toNat * 36)) 36 cs3) ∧ trueD (callable P g0) (HC P g0 (Array.mk (Array.toList first0 ++ ((.agg cs2) :: ((.agg cs3) :: (List.append [] (Array.toList capt0)))))) h1 (fun v1 h2 => (∃ n5 : Int, (v1 = (.int .i64 n5)) ∧ (slices_siftDownCmpFunc_api_Objref.k1 n5 K h2 n2 n3 len0 a0 I0 x0 h0))))))))
def slices_siftDownCmpFunc_api_Objref.k3 (n2 : Int) (n3 : Int) (len0 : Nat) (a0 : Option Addr) (h3 : Hp) (I0 : List Value → Hp → Prop) (x0 : List Value → Hp → Nat) (h0 : Hp) : Prop :=
 ((0 : Int) ≤ (IntKind.wrap .i64 (n2 + (IntKind.wrap .i64 ((IntKind.wrap .i64 (2 * n3)) + 1))))) ∧ ((IntKind.wrap .i64 (n2 + (IntKind.wrap .i64 ((IntKind.wrap .i64 (2 * n3)) + 1)))) < (len0 : Int)) ∧ someD a0 (fun p10 => (∃ cs8 : Array Value, (CellsAt h3 (p10.add ((IntKind.wrap .i64 (n2 + (IntKind.wrap .i64 ((IntKind.wrap .i64 (2 * n3)) + 1)))).toNat * 36)) 36 cs8) ∧ ((0 : Int) ≤ (IntKind.wrap .i64 (n2 + n3))) ∧ ((IntKind.wrap .i64 (n2 + n3)) < (len0 : Int)) ∧ someD a0 (fun p11 => (∃ cs9 : Array Value, (CellsAt h3 (p11.add ((IntKind.wrap .i64 (n2 + n3)).toNat * 36)) 36 cs9) ∧ ((0 : Int) ≤ (IntKind.wrap .i64 (n2 + n3))) ∧ ((IntKind.wrap .i64 (n2 + n3)) < (len0 : Int)) ∧ someD a0 (fun p12 => (cs8.size = 36) ∧ (∀ v5 : Value, (v5 ∈ (Array.toList cs8 : List Value) → (Den.cellish v5) = Bool.true)) ∧ (Free h3 (p12.add ((IntKind.wrap .i64 (n2 + n3)).toNat * 36)) 36) ∧ ((0 : Int) ≤ (IntKind.wrap .i64 (n2 + (IntKind.wrap .i64 ((IntKind.wrap .i64 (2 * n3)) + 1))))) ∧ ((IntKind.wrap .i64 (n2 + (IntKind.wrap .i64 ((IntKind.wrap .i64 (2 * n3)) + 1)))) < (len0 : Int)) ∧ someD a0 (fun p13 => (cs9.size = 36) ∧ (∀ v6 : Value, (v6 ∈ (Array.toList cs9 : List Value) → (Den.cellish v6) = Bool.true)) ∧ (Free (h3.setCells (p12.add ((IntKind.wrap .i64 (n2 + n3)).toNat * 36)) cs8) (p13.add ((IntKind.wrap .i64 (n2 + (IntKind.wrap .i64 ((IntKind.wrap .i64 (2 * n3)) + 1)))).toNat * 36)) 36) ∧ (I0 [.int .i64 (IntKind.wrap .i64 ((IntKind.wrap .i64 (2 * n3)) + 1))] ((h3.setCells (p12.add ((IntKind.wrap .i64 (n2 + n3)).toNat * 36)) cs8).setCells (p13.add ((IntKind.wrap .i64 (n2 + (IntKind.wrap .i64 ((IntKind.wrap .i64 (2 * n3)) + 1)))).toNat * 36)) cs9)) ∧ (x0 [.int .i64 (IntKind.wrap .i64 ((IntKind.wrap .i64 (2 * n3)) + 1))] ((h3.setCells (p12.add ((IntKind.wrap .i64 (n2 + n3)).toNat * 36)) cs8).setCells (p13.add ((IntKind.wrap .i64 (n2 + (IntKind.wrap .i64 ((IntKind.wrap .i64 (2 * n3)) + 1)))).toNat * 36)) cs9)) < (x0 [.int .i64 n3] h0)))))))
def slices_siftDownCmpFunc_api_Objref.k4 (n6 : Int) (K : Value → Hp → Prop) (h3 : Hp) (n2 : Int) (n3 : Int) (len0 : Nat) (a0 : Option Addr) (I0 : List Value → Hp → Prop) (x0 : List Value → Hp → Nat) (h0 : Hp) : Prop :=
 bcase ((!(decide (n6 < 0))))
 (K (.tuple #[]) h3)
 ((slices_siftDownCmpFunc_api_Objref.k3 n2 n3 len0 a0 h3 I0 x0 h0))
def slices_siftDownCmpFunc_api_Objref.k5 (n2 : Int) (n3 : Int) (len0 : Nat) (a0 : Option Addr) (h1 : Hp) (g0 : Nat) (first0 : Array Value) (capt0 : Array Value) (K : Value → Hp → Prop) (I0 : List Value → Hp → Prop) (x0 : List Value → Hp → Nat) (h0 : Hp) : Prop :=
 ((0 : Int) ≤ (IntKind.wrap .i64 (n2 + n3))) ∧ ((IntKind.wrap .i64 (n2 + n3)) < (len0 : Int)) ∧ someD a0 (fun p8 => (∃ cs6 : Array Value, (CellsAt h1 (p8.add ((IntKind.wrap .i64 (n2 + n3)).toNat * 36)) 36 cs6) ∧ ((0 : Int) ≤ (IntKind.wrap .i64 (n2 + (IntKind.wrap .i64 ((IntKind.wrap .i64 (2 * n3)) + 1))))) ∧ ((IntKind.wrap .i64 (n2 + (IntKind.wrap .i64 ((IntKind.wrap .i64 (2 * n3)) + 1)))) < (len0 : Int)) ∧ someD a0 (fun p9 => (∃ cs7 : Array Value, (CellsAt h1 (p9.add ((IntKind.wrap .i64 (n2 + (IntKind.wrap .i64 ((IntKind.wrap .i64 (2 * n3)) + 1)))).toNat * 36)) 36 cs7) ∧ trueD (callable P g0) (HC P g0 (Array.mk (Array.toList first0 ++ ((.agg cs6) :: ((.agg cs7) :: (List.append [] (Array.toList capt0)))))) h1 (fun v4 h3 => (∃ n6 : Int, (v4 = (.int .i64 n6)) ∧ (slices_siftDownCmpFunc_api_Objref.k4 n6 K h3 n2 n3 len0 a0 I0 x0 h0))))))))
def slices_siftDownCmpFunc_api_Objref.k6 (n4 : Int) (n2 : Int) (n3 : Int) (len0 : Nat) (a0 : Option Addr) (h1 : Hp) (g0 : Nat) (first0 : Array Value) (capt0 : Array Value) (K : Value → Hp → Prop) (I0 : List Value → Hp → Prop) (x0 : List Value → Hp → Nat) (h0 : Hp) : Prop :=
 bcase (decide (n4 < 0))
 ((slices_siftDownCmpFunc_api_Objref.k2 n2 n3 len0 a0 h1 g0 first0 capt0 K I0 x0 h0))
 ((slices_siftDownCmpFunc_api_Objref.k5 n2 n3 len0 a0 h1 g0 first0 capt0 K I0 x0 h0))
def slices_siftDownCmpFunc_api_Objref.k7 (n2 : Int) (n3 : Int) (len0 : Nat) (a0 : Option Addr) (h0 : Hp) (g0 : Nat) (first0 : Array Value) (capt0 : Array Value) (K : Value → Hp → Prop) (I0 : List Value → Hp → Prop) (x0 : List Value → Hp → Nat) : Prop :=
 ((0 : Int) ≤ (IntKind.wrap .i64 (n2 + (IntKind.wrap .i64 ((IntKind.wrap .i64 (2 * n3)) + 1))))) ∧ ((IntKind.wrap .i64 (n2 + (IntKind.wrap .i64 ((IntKind.wrap .i64 (2 * n3)) + 1)))) < (len0 : Int)) ∧ someD a0 (fun p0 => (∃ cs0 : Array Value, (CellsAt h0 (p0.add ((IntKind.wrap .i64 (n2 + (IntKind.wrap .i64 ((IntKind.wrap .i64 (2 * n3)) + 1)))).toNat * 36)) 36 cs0) ∧ ((0 : Int) ≤ (IntKind.wrap .i64 ((IntKind.wrap .i64 (n2 + (IntKind.wrap .i64 ((IntKind.wrap .i64 (2 * n3)) + 1)))) + 1))) ∧ ((IntKind.wrap .i64 ((IntKind.wrap .i64 (n2 + (IntKind.wrap .i64 ((IntKind.wrap .i64 (2 * n3)) + 1)))) + 1)) < (len0 : Int)) ∧ someD a0 (fun p1 => (∃ cs1 : Array Value, (CellsAt h0 (p1.add ((IntKind.wrap .i64 ((IntKind.wrap .i64 (n2 + (IntKind.wrap .i64 ((IntKind.wrap .i64 (2 * n3)) + 1)))) + 1)).toNat * 36)) 36 cs1) ∧ trueD (callable P g0) (HC P g0 (Array.mk (Array.toList first0 ++ ((.agg cs0) :: ((.agg cs1) :: (List.append [] (Array.toList capt0)))))) h0 (fun v0 h1 => (∃ n4 : Int, (v0 = (.int .i64 n4)) ∧ (slices_siftDownCmpFunc_api_Objref.k6 n4 n2 n3 len0 a0 h1 g0 first0 capt0 K I0 x0 h0))))))))
def slices_siftDownCmpFunc_api_Objref.k8 (n2 : Int) (n3 : Int) (len0 : Nat) (a0 : Option Addr) (h0 : Hp) (g0 : Nat) (first0 : Array Value) (capt0 : Array Value) (K : Value → Hp → Prop) (I0 : List Value → Hp → Prop) (x0 : List Value → Hp → Nat) : Prop :=
 ((0 : Int) ≤ (IntKind.wrap .i64 (n2 + n3))) ∧ ((IntKind.wrap .i64 (n2 + n3)) < (len0 : Int)) ∧ someD a0 (fun p14 => (∃ cs10 : Array Value, (CellsAt h0 (p14.add ((IntKind.wrap .i64 (n2 + n3)).toNat * 36)) 36 cs10) ∧ ((0 : Int) ≤ (IntKind.wrap .i64 (n2 + (IntKind.wrap .i64 ((IntKind.wrap .i64 (2 * n3)) + 1))))) ∧ ((IntKind.wrap .i64 (n2 + (IntKind.wrap .i64 ((IntKind.wrap .i64 (2 * n3)) + 1)))) < (len0 : Int)) ∧ someD a0 (fun p15 => (∃ cs11 : Array Value, (CellsAt h0 (p15.add ((IntKind.wrap .i64 (n2 + (IntKind.wrap .i64 ((IntKind.wrap .i64 (2 * n3)) + 1)))).toNat * 36)) 36 cs11) ∧ trueD (callable P g0) (HC P g0 (Array.mk (Array.toList first0 ++ ((.agg cs10) :: ((.agg cs11) :: (List.append [] (Array.toList capt0)))))) h0 (fun v7 h4 => (∃ n7 : Int, (v7 = (.int .i64 n7)) ∧ (slices_siftDownCmpFunc_api_Objref.k4 n7 K h4 n2 n3 len0 a0 I0 x0 h0))))))))
def slices_siftDownCmpFunc_api_Objref.k9 (n3 : Int) (n1 : Int) (n2 : Int) (len0 : Nat) (a0 : Option Addr) (h0 : Hp) (g0 : Nat) (first0 : Array Value) (capt0 : Array Value) (K : Value → Hp → Prop) (I0 : List Value → Hp → Prop) (x0 : List Value → Hp → Nat) : Prop :=
 bcase (decide ((IntKind.wrap .i64 ((IntKind.wrap .i64 ((IntKind.wrap .i64 (2 * n3)) + 1)) + 1)) < n1))
 ((slices_siftDownCmpFunc_api_Objref.k7 n2 n3 len0 a0 h0 g0 first0 capt0 K I0 x0))
 ((slices_siftDownCmpFunc_api_Objref.k8 n2 n3 len0 a0 h0 g0 first0 capt0 K I0 x0))
def slices_siftDownCmpFunc_api_Objref (a0 : Option Addr) (len0 : Nat) (cap0 : Nat) (n0 : Int) (n1 : Int) (n2 : Int) (g0 : Nat) (first0 : Array Value) (capt0 : Array Value) (K : Value → Hp → Prop) (h : Hp) : Prop :=
 (∃ I0 : List Value → Hp → Prop, (∃ x0 : List Value → Hp → Nat, (I0 [.int .i64 n0] h) ∧ (∀ h0 : Hp, (∀ n3 : Int, (I0 [.int .i64 n3] h0 → bcase (decide (n1 ≤ (IntKind.wrap .i64 ((IntKind.wrap .i64 (2 * n3)) + 1))))
 (K (.tuple #[]) h0)
 ((slices_siftDownCmpFunc_api_Objref.k9 n3 n1 n2 len0 a0 h0 g0 first0 capt0 K I0 x0)))))))
theorem slices_siftDownCmpFunc_api_Objref.hc {a0 : Option Addr} {len0 : Nat} {cap0 : Nat} {n0 : Int} {n1 : Int} {n2 : Int} {g0 : Nat} {first0 : Array Value} {capt0 : Array Value} {K : Value → Hp → Prop} {h : Hp} (hh : slices_siftDownCmpFunc_api_Objref a0 len0 cap0 n0 n1 n2 g0 first0 capt0 K h) : HC P slices_siftDownCmpFunc_api_Objref.n #[.slice a0 len0 cap0, .int .i64 n0, .int .i64 n1, .int .i64 n2, .func (.func g0) first0 capt0] h K :=
  HC_of_den (fn := Go.Proofs.Try.f83) (args := [.slice a0 len0 cap0, .int .i64 n0, .int .i64 n1, .int .i64 n2, .func (.func g0) first0 capt0]) Go.Proofs.Try.func83 rfl (Nat.le_of_ble_eq_true (by kernel_rfl)) (den_cast hh (by kernel_rfl))

def slices_medianAdjacentCmpFunc_api_Objref (a0 : Option Addr) (len0 : Nat) (cap0 : Nat) (n0 : Int) (p0 : Option Addr) (g0 : Nat) (first0 : Array Value) (capt0 : Array Value) (K : Value → Hp → Prop) (h : Hp) : Prop :=
 HC P slices_medianCmpFunc_api_Objref.n #[.slice a0 len0 cap0, .int .i64 (IntKind.wrap .i64 (n0 - 1)), .int .i64 n0, .int .i64 (IntKind.wrap .i64 (n0 + 1)), .pointer p0, .func (.func g0) first0 capt0] h (fun v0 h0 => (∃ n1 : Int, (v0 = (.int .i64 n1)) ∧ K (.int .i64 n1) h0))
theorem slices_medianAdjacentCmpFunc_api_Objref.hc {a0 : Option Addr} {len0 : Nat} {cap0 : Nat} {n0 : Int} {p0 : Option Addr} {g0 : Nat} {first0 : Array Value} {capt0 : Array Value} {K : Value → Hp → Prop} {h : Hp} (hh : slices_medianAdjacentCmpFunc_api_Objref a0 len0 cap0 n0 p0 g0 first0 capt0 K h) : HC P slices_medianAdjacentCmpFunc_api_Objref.n #[.slice a0 len0 cap0, .int .i64 n0, .pointer p0, .func (.func g0) first0 capt0] h K :=
  HC_of_den (fn := Go.Proofs.Try.f86) (args := [.slice a0 len0 cap0, .int .i64 n0, .pointer p0, .func (.func g0) first0 capt0]) Go.Proofs.Try.func86 rfl (Nat.le_of_ble_eq_true (by kernel_rfl)) (den_cast hh (by kernel_rfl))

def slices_medianCmpFunc_api_Objref.k0 (a0 : Option Addr) (len0 : Nat) (cap0 : Nat) (n3 : Int) (n5 : Int) (p0 : Option Addr) (g0 : Nat) (first0 : Array Value) (capt0 : Array Value) (h1 : Hp) (K : Value → Hp → Prop) : Prop :=
 HC P slices_order2CmpFunc_api_Objref.n #[.slice a0 len0 cap0, .int .i64 n3, .int .i64 n5, .pointer p0, .func (.func g0) first0 capt0] h1 (fun v2 h2 => (∃ n7 : Int, (∃ n8 : Int, (v2 = (.tuple #[.int .i64 n7, .int .i64 n8])) ∧ K (.int .i64 n8) h2)))
def slices_medianCmpFunc_api_Objref.k1 (a0 : Option Addr) (len0 : Nat) (cap0 : Nat) (n4 : Int) (n2 : Int) (p0 : Option Addr) (g0 : Nat) (first0 : Array Value) (capt0 : Array Value) (h0 : Hp) (n3 : Int) (K : Value → Hp → Prop) : Prop :=
 HC P slices_order2CmpFunc_api_Objref.n #[.slice a0 len0 cap0, .int .i64 n4, .int .i64 n2, .pointer p0, .func (.func g0) first0 capt0] h0 (fun v1 h1 => (∃ n5 : Int, (∃ n6 : Int, (v1 = (.tuple #[.int .i64 n5, .int .i64 n6])) ∧ (slices_medianCmpFunc_api_Objref.k0 a0 len0 cap0 n3 n5 p0 g0 first0 capt0 h1 K))))
def slices_medianCmpFunc_api_Objref (a0 : Option Addr) (len0 : Nat) (cap0 : Nat) (n0 : Int) (n1 : Int) (n2 : Int) (p0 : Option Addr) (g0 : Nat) (first0 : Array Value) (capt0 : Array Value) (K : Value → Hp → Prop) (h : Hp) : Prop :=
 HC P slices_order2CmpFunc_api_Objref.n #[.slice a0 len0 cap0, .int .i64 n0, .int .i64 n1, .pointer p0, .func (.func g0) first0 capt0] h (fun v0 h0 => (∃ n3 : Int, (∃ n4 : Int, (v0 = (.tuple #[.int .i64 n3, .int .i64 n4])) ∧ (slices_medianCmpFunc_api_Objref.k1 a0 len0 cap0 n4 n2 p0 g0 first0 capt0 h0 n3 K))))
theorem slices_medianCmpFunc_api_Objref.hc {a0 : Option Addr} {len0 : Nat} {cap0 : Nat} {n0 : Int} {n1 : Int} {n2 : Int} {p0 : Option Addr} {g0 : Nat} {first0 : Array Value} {capt0 : Array Value} {K : Value → Hp → Prop} {h : Hp} (hh : slices_medianCmpFunc_api_Objref a0 len0 cap0 n0 n1 n2 p0 g0 first0 capt0 K h) : HC P slices_medianCmpFunc_api_Objref.n #[.slice a0 len0 cap0, .int .i64 n0, .int .i64 n1, .int .i64 n2, .pointer p0, .func (.func g0) first0 capt0] h K :=
  HC_of_den (fn := Go.Proofs.Try.f87) (args := [.slice a0 len0 cap0, .int .i64 n0, .int .i64 n1, .int .i64 n2, .pointer p0, .func (.func g0) first0 capt0]) Go.Proofs.Try.func87 rfl (Nat.le_of_ble_eq_true (by kernel_rfl)) (den_cast hh (by kernel_rfl))

def slices_order2CmpFunc_api_Objref.k0 (p0 : Option Addr) (h0 : Hp) (K : Value → Hp → Prop) (n1 : Int) (n0 : Int) : Prop :=
 someD p0 (fun p3 => (∃ n3 : Int, ((h0.cell? p3) = (some (.int .i64 n3))) ∧ someD p0 (fun p4 => (∃ u0 : Value, (h0.cell? p4) = (some u0)) ∧ ((h0.frozen? p4) = Bool.false) ∧ K (.tuple #[.int .i64 n1, .int .i64 n0]) (h0.setCell p4 (.int .i64 (IntKind.wrap .i64 (n3 + 1)))))))
def slices_order2CmpFunc_api_Objref.k1 (n2 : Int) (p0 : Option Addr) (h0 : Hp) (K : Value → Hp → Prop) (n1 : Int) (n0 : Int) : Prop :=
 bcase (decide (n2 < 0))
 ((slices_order2CmpFunc_api_Objref.k0 p0 h0 K n1 n0))
 (K (.tuple #[.int .i64 n0, .int .i64 n1]) h0)
def slices_order2CmpFunc_api_Objref (a0 : Option Addr) (len0 : Nat) (cap0 : Nat) (n0 : Int) (n1 : Int) (p0 : Option Addr) (g0 : Nat) (first0 : Array Value) (capt0 : Array Value) (K : Value → Hp → Prop) (h : Hp) : Prop :=
 ((0 : Int) ≤ n1) ∧ (n1 < (len0 : Int)) ∧ someD a0 (fun p1 => (∃ cs0 : Array Value, (CellsAt h (p1.add (n1.toNat * 36)) 36 cs0) ∧ ((0 : Int) ≤ n0) ∧ (n0 < (len0 : Int)) ∧ someD a0 (fun p2 => (∃ cs1 : Array Value, (CellsAt h (p2.add (n0.toNat * 36)) 36 cs1) ∧ trueD (callable P g0) (HC P g0 (Array.mk (Array.toList first0 ++ ((.agg cs0) :: ((.agg cs1) :: (List.append [] (Array.toList capt0)))))) h (fun v0 h0 => (∃ n2 : Int, (v0 = (.int .i64 n2)) ∧ (slices_order2CmpFunc_api_Objref.k1 n2 p0 h0 K n1 n0))))))))
theorem slices_order2CmpFunc_api_Objref.hc {a0 : Option Addr} {len0 : Nat} {cap0 : Nat} {n0 : Int} {n1 : Int} {p0 : Option Addr} {g0 : Nat} {first0 : Array Value} {capt0 : Array Value} {K : Value → Hp → Prop} {h : Hp} (hh : slices_order2CmpFunc_api_Objref a0 len0 cap0 n0 n1 p0 g0 first0 capt0 K h) : HC P slices_order2CmpFunc_api_Objref.n #[.slice a0 len0 cap0, .int .i64 n0, .int .i64 n1, .pointer p0, .func (.func g0) first0 capt0] h K :=
  HC_of_den (fn := Go.Proofs.Try.f89) (args := [.slice a0 len0 cap0, .int .i64 n0, .int .i64 n1, .pointer p0, .func (.func g0) first0 capt0]) Go.Proofs.Try.func89 rfl (Nat.le_of_ble_eq_true (by kernel_rfl)) (den_cast hh (by kernel_rfl))

def slices_xorshift_Next (p0 : Option Addr) (K : Value → Hp → Prop) (h : Hp) : Prop :=
 someD p0 (fun p1 => (∃ n0 : Int, ((h.cell? p1) = (some (.int .u64 n0))) ∧ someD p0 (fun p2 => (∃ n1 : Int, ((h.cell? p2) = (some (.int .u64 n1))) ∧ ((0 : Int) ≤ 13) ∧ someD p0 (fun p3 => (∃ u0 : Value, (h.cell? p3) = (some u0)) ∧ ((h.frozen? p3) = Bool.false) ∧ someD p0 (fun p4 => (∃ n2 : Int, (((h.setCell p3 (.int .u64 (bits .xor .u64 n0 (IntKind.wrap .u64 (n1 * (2 ^ Min.min ((13 : Int).toNat) 64)))))).cell? p4) = (some (.int .u64 n2))) ∧ someD p0 (fun p5 => (∃ n3 : Int, (((h.setCell p3 (.int .u64 (bits .xor .u64 n0 (IntKind.wrap .u64 (n1 * (2 ^ Min.min ((13 : Int).toNat) 64)))))).cell? p5) = (some (.int .u64 n3))) ∧ ((0 : Int) ≤ 7) ∧ someD p0 (fun p6 => (∃ u1 : Value, ((h.setCell p3 (.int .u64 (bits .xor .u64 n0 (IntKind.wrap .u64 (n1 * (2 ^ Min.min ((13 : Int).toNat) 64)))))).cell? p6) = (some u1)) ∧ (((h.setCell p3 (.int .u64 (bits .xor .u64 n0 (IntKind.wrap .u64 (n1 * (2 ^ Min.min ((13 : Int).toNat) 64)))))).frozen? p6) = Bool.false) ∧ someD p0 (fun p7 => (∃ n4 : Int, ((((h.setCell p3 (.int .u64 (bits .xor .u64 n0 (IntKind.wrap .u64 (n1 * (2 ^ Min.min ((13 : Int).toNat) 64)))))).setCell p6 (.int .u64 (bits .xor .u64 n2 (Int.fdiv n3 (2 ^ Min.min ((7 : Int).toNat) 64))))).cell? p7) = (some (.int .u64 n4))) ∧ someD p0 (fun p8 => (∃ n5 : Int, ((((h.setCell p3 (.int .u64 (bits .xor .u64 n0 (IntKind.wrap .u64 (n1 * (2 ^ Min.min ((13 : Int).toNat) 64)))))).setCell p6 (.int .u64 (bits .xor .u64 n2 (Int.fdiv n3 (2 ^ Min.min ((7 : Int).toNat) 64))))).cell? p8) = (some (.int .u64 n5))) ∧ ((0 : Int) ≤ 17) ∧ someD p0 (fun p9 => (∃ u2 : Value, (((h.setCell p3 (.int .u64 (bits .xor .u64 n0 (IntKind.wrap .u64 (n1 * (2 ^ Min.min ((13 : Int).toNat) 64)))))).setCell p6 (.int .u64 (bits .xor .u64 n2 (Int.fdiv n3 (2 ^ Min.min ((7 : Int).toNat) 64))))).cell? p9) = (some u2)) ∧ ((((h.setCell p3 (.int .u64 (bits .xor .u64 n0 (IntKind.wrap .u64 (n1 * (2 ^ Min.min ((13 : Int).toNat) 64)))))).setCell p6 (.int .u64 (bits .xor .u64 n2 (Int.fdiv n3 (2 ^ Min.min ((7 : Int).toNat) 64))))).frozen? p9) = Bool.false) ∧ someD p0 (fun p10 => (∃ n6 : Int, (((((h.setCell p3 (.int .u64 (bits .xor .u64 n0 (IntKind.wrap .u64 (n1 * (2 ^ Min.min ((13 : Int).toNat) 64)))))).setCell p6 (.int .u64 (bits .xor .u64 n2 (Int.fdiv n3 (2 ^ Min.min ((7 : Int).toNat) 64))))).setCell p9 (.int .u64 (bits .xor .u64 n4 (IntKind.wrap .u64 (n5 * (2 ^ Min.min ((17 : Int).toNat) 64)))))).cell? p10) = (some (.int .u64 n6))) ∧ K (.int .u64 n6) (((h.setCell p3 (.int .u64 (bits .xor .u64 n0 (IntKind.wrap .u64 (n1 * (2 ^ Min.min ((13 : Int).toNat) 64)))))).setCell p6 (.int .u64 (bits .xor .u64 n2 (Int.fdiv n3 (2 ^ Min.min ((7 : Int).toNat) 64))))).setCell p9 (.int .u64 (bits .xor .u64 n4 (IntKind.wrap .u64 (n5 * (2 ^ Min.min ((17 : Int).toNat) 64)))))))))))))))))))))))
theorem slices_xorshift_Next.hc {p0 : Option Addr} {K : Value → Hp → Prop} {h : Hp} (hh : slices_xorshift_Next p0 K h) : HC P slices_xorshift_Next.n #[.pointer p0] h K :=
  HC_of_den (fn := Go.Proofs.Try.f85) (args := [.pointer p0]) Go.Proofs.Try.func85 rfl (Nat.le_of_ble_eq_true (by kernel_rfl)) (den_cast hh (by kernel_rfl))

end
end Go.Den.Proxy
end

section
set_option linter.unusedVariables false
set_option maxRecDepth 100000
namespace Go.Den.Proxy
open Go Go.Den

noncomputable section

def math_bits_Len (n0 : Int) (K : Value → Hp → Prop) (h : Hp) : Prop :=
 HC P math_bits_Len64.n #[.int .u64 n0] h (fun v0 h0 => (∃ n1 : Int, (v0 = (.int .i64 n1)) ∧ K (.int .i64 n1) h0))
theorem math_bits_Len.hc {n0 : Int} {K : Value → Hp → Prop} {h : Hp} (hh : math_bits_Len n0 K h) : HC P math_bits_Len.n #[.int .u64 n0] h K :=
  HC_of_den (fn := Go.Proofs.Try.f56) (args := [.int .u64 n0]) Go.Proofs.Try.func56 rfl (Nat.le_of_ble_eq_true (by kernel_rfl)) (den_cast hh (by kernel_rfl))

def slices_nextPowerOfTwo.k0 (n1 : Int) (K : Value → Hp → Prop) (h0 : Hp) : Prop :=
 ((0 : Int) ≤ n1) ∧ K (.int .u64 (IntKind.wrap .u64 (1 * (2 ^ Min.min n1.toNat 64)))) h0
def slices_nextPowerOfTwo (n0 : Int) (K : Value → Hp → Prop) (h : Hp) : Prop :=
 HC P math_bits_Len.n #[.int .u64 (IntKind.wrap .u64 n0)] h (fun v0 h0 => (∃ n1 : Int, (v0 = (.int .i64 n1)) ∧ (slices_nextPowerOfTwo.k0 n1 K h0)))
theorem slices_nextPowerOfTwo.hc {n0 : Int} {K : Value → Hp → Prop} {h : Hp} (hh : slices_nextPowerOfTwo n0 K h) : HC P slices_nextPowerOfTwo.n #[.int .i64 n0] h K :=
  HC_of_den (fn := Go.Proofs.Try.f84) (args := [.int .i64 n0]) Go.Proofs.Try.func84 rfl (Nat.le_of_ble_eq_true (by kernel_rfl)) (den_cast hh (by kernel_rfl))

end
end Go.Den.Proxy
end

section
set_option linter.unusedVariables false
set_option maxRecDepth 100000
namespace Go.Den.Proxy
open Go Go.Den Go.Sort Go.Shelf

def len64_ren : Ren := ⟨fun | 129 => 78 | n => n, fun | 53 => 29 | 3 => 3 | 4 => 4 | 46 => 127 | 5 => 5 | 9 => 9 | n => n, fun n => n⟩
theorem len64_lays : Go.Proofs.Lays.n129 P len64_ren where
  mixed := by kernel_rfl
  f129 := Go.Proofs.Try.func78.trans (congrArg some (by kernel_rfl))
  t3 := Go.Proofs.Try.underlying3
  a3 := Go.Proofs.Try.isAgg3
  z3 := Go.Proofs.Try.sizeOf3
  v3 := Go.Proofs.Try.zeroValue3
  t4 := Go.Proofs.Try.underlying4
  a4 := Go.Proofs.Try.isAgg4
  z4 := Go.Proofs.Try.sizeOf4
  v4 := Go.Proofs.Try.zeroValue4
  t5 := Go.Proofs.Try.underlying5
  a5 := Go.Proofs.Try.isAgg5
  z5 := Go.Proofs.Try.sizeOf5
  v5 := Go.Proofs.Try.zeroValue5
  t9 := Go.Proofs.Try.underlying9
  a9 := Go.Proofs.Try.isAgg9
  z9 := Go.Proofs.Try.sizeOf9
  v9 := Go.Proofs.Try.zeroValue9
  t46 := Go.Proofs.Try.underlying127
  a46 := Go.Proofs.Try.isAgg127
  z46 := Go.Proofs.Try.sizeOf127
  v46 := Go.Proofs.Try.zeroValue127
  t53 := Go.Proofs.Try.underlying29
  a53 := Go.Proofs.Try.isAgg29
  z53 := Go.Proofs.Try.sizeOf29
  v53 := Go.Proofs.Try.zeroValue29

theorem bitLen_eq (x : Nat) (h : x < 2 ^ 64) : Lib.bitLen x = bitsLen x := by
  induction x using Nat.strongRecOn with
  | _ x ih =>
    by_cases h0 : x = 0
    · subst h0; rfl
    · rw [Lib.bitLen_half x h0 h, ih (x / 2) (by omega) (by omega)]
      unfold bitsLen
      rw [if_neg h0, Nat.log2_def x]
      by_cases h1 : x / 2 = 0
      · rw [if_pos h1, if_neg (by omega)]
      · rw [if_neg h1, if_pos (by omega)]; omega

section
variable {h : Hp} {K : Value → Hp → Prop}

theorem len64_spec {n : Nat} (hn : n < 18446744073709551616) (hk : K (.int .i64 (bitsLen n : Nat)) h) : HC P math_bits_Len64.n #[.int .u64 n] h K := by
  intro w hw
  refine (callsIn_wide.2 (Go.Proofs.Any.bits_Len64 len64_lays (n : Int) w (by omega) (by omega))).mono ?_
  rintro e w' ⟨rfl, rfl⟩
  refine ⟨_, rfl, Amb.refl _, ?_⟩
  rw [hw, Int.toNat_natCast, bitLen_eq _ (by omega)]
  exact hk

theorem len_spec {n : Nat} (hn : n < 18446744073709551616) (hk : K (.int .i64 (bitsLen n : Nat)) h) : HC P math_bits_Len.n #[.int .u64 n] h K :=
  math_bits_Len.hc (len64_spec hn ⟨_, rfl, hk⟩)

end
end Go.Den.Proxy
end

section
set_option linter.unusedVariables false
set_option maxRecDepth 100000
namespace Go.Den.Proxy
open Go Go.Den
variable {h h' : Hp} {c c' : Col} {K : Value → Hp → Prop} {Pp most n A : Nat} {sp : List Sp} {fr : List Nat} {L : Nat → Option Prx} {i b b0 : Nat} {x : Prx} {y o : Obr} {s : Sp}

/-- What the library's sort does to a row of objrefs, as far as it is asked. -/
def SrtOk (R : List Obr → Prop) (l : List Obr) : Prop := ∀ (h : Hp) (c : Col) (r : Rg) (a : Option Addr) (cap : Nat) (K : Value → Hp → Prop), r ≠ z0 → Sl h c r T.api_Objref 36 a l.length cap (ocs l) → WF h c →
  (∀ l' h', l'.Perm l → R l' → Sl h' c r T.api_Objref 36 a l.length cap (ocs l') → Chg (fun z => z = r) h c h' c → K (.tuple #[]) h') →
  HC P slices_SortFunc_api_Objref_api_Objref.n #[.slice a l.length cap, .func (.func proxy_Proxies_Down_1.n) #[] #[]] h K
theorem srt_one {R : List Obr → Prop} {l : List Obr} (hl : l.length ≤ 1) (hR : R l) : SrtOk R l := by
  intro h c r a cap K hr sl w hk
  refine slices_SortFunc_api_Objref_api_Objref.hc ?_
  unfold slices_SortFunc_api_Objref_api_Objref
  have e0 : IntKind.wrap .u64 ((l.length : Nat) : Int) = ((l.length : Nat) : Int) := by rw [IntKind.wrap_u64]; omega
  rw [e0]
  refine len_spec (by omega) ⟨_, rfl, ?_⟩
  unfold slices_SortFunc_api_Objref_api_Objref.k0
  refine slices_pdqsortCmpFunc_api_Objref.hc ?_
  unfold slices_pdqsortCmpFunc_api_Objref
  refine ⟨fun vs hh => ∃ (z : Int), vs = [z |> Value.int .i64, .bool Bool.true, .int .i64 0, .bool Bool.true, .int .i64 ((l.length : Nat) : Int)] ∧ hh = h, fun _ _ => 0, ⟨_, rfl, rfl⟩, ?_⟩
  rintro h0 n3 bb0 n4 bb1 n5 ⟨z, he, rfl⟩
  cases he
  have e1 : IntKind.wrap .i64 (((l.length : Nat) : Int) - 0) = ((l.length : Nat) : Int) := by rw [wrap_id (by omega) (by omega)]; omega
  rw [e1]
  refine bcT (decide_eq_true (by omega)) ?_
  unfold slices_pdqsortCmpFunc_api_Objref.k0
  refine slices_insertionSortCmpFunc_api_Objref.hc ?_
  unfold slices_insertionSortCmpFunc_api_Objref
  have e2 : IntKind.wrap .i64 ((0 : Int) + 1) = 1 := by rw [wrap_id (by omega) (by omega)]; rfl
  rw [e2]
  refine ⟨fun vs hh => vs = [.int .i64 1] ∧ hh = h0, fun _ _ => 0, ⟨rfl, rfl⟩, ?_⟩
  rintro h1 n2 ⟨he, rfl⟩
  cases he
  refine bcF (decide_eq_false (by omega)) ?_
  exact hk l h1 (List.Perm.refl _) hR sl (Chg.refl w)

def dnx (x : Prx) : Prx := { x with cnt := x.cnt - 1 }
/-- A handle, counted down. -/
theorem Down_spec {z : Nat} {R : List Obr → Prop} (t : PSt h c Pp most sp fr L n) (w : WF h c) (hn : n < 60000) (hz : z < 18446744073709551616)
    (h0 : fnd sp z = none → K (.tuple #[.slice none 0 0, .int .i64 2]) h)
    (hpos : ∀ i s x, fnd sp z = some (i, s) → L i = some x → 0 < x.cnt ∧ (x.cnt = 1 → x.cut = false → SrtOk R x.has))
    (h1 : ∀ i s x, fnd sp z = some (i, s) → L i = some x → 1 < x.cnt → ∀ h' c', PSt h' c' Pp most sp fr (setL L i (some (dnx x))) n → Chg prR h c h' c' → K (.tuple #[.slice none 0 0, .int .i64 0]) h')
    (h2 : ∀ i s x, fnd sp z = some (i, s) → L i = some x → x.cnt = 1 → x.cut = true → ∀ h' c', PSt h' c' Pp most (sp.set i (gone s)) (fr ++ freed s i) (setL L i none) (n + 1) → Chg prR h c h' c' → K (.tuple #[.slice none 0 0, .int .i64 0]) h')
    (h3 : ∀ i s x, fnd sp z = some (i, s) → L i = some x → x.cnt = 1 → x.cut = false → ∀ l' a cap h' c', l'.Perm x.has → R l' → (∀ o ∈ l', o.Ok) → PSt h' c' Pp most (sp.set i (gone s)) (fr ++ freed s i) (setL L i none) (n + 1) → Sl h' c' (2, 2 * i + 1) T.api_Objref 36 a l'.length cap (ocs l') → Chg prR h c h' c' →
      K (.tuple #[.slice a l'.length cap, .int .i64 0]) h') :
    HC P proxy_Proxies_Down.n #[.pointer (some ⟨Pp, 0, none⟩), .int .u64 (z : Int)] h K := by
  refine proxy_Proxies_Down.hc ?_
  unfold proxy_Proxies_Down
  refine pfind_spec t hz (fun e => ⟨_, _, rfl, ?_⟩) fun i s b x e hx hL tb => ⟨_, _, rfl, ?_⟩
  · unfold proxy_Proxies_Down.k7
    exact bcT rfl (h0 e)
  obtain ⟨hc0, hsrt⟩ := hpos i s x e hL
  obtain ⟨a, cap, r⟩ := tb
  obtain ⟨hs, hst, hze⟩ := fnd_some e
  obtain ⟨A, tA⟩ := id t
  unfold proxy_Proxies_Down.k7
  refine bcF rfl ?_
  unfold proxy_Proxies_Down.k6
  have hcm := r.cnt
  simp only [someD_some, Addr.add_mk, Nat.zero_add]
  refine ⟨(x.cnt : Int), by rw [cell_of r.blk]; rfl, ⟨_, by rw [cell_of r.blk]; rfl⟩, frozen_of r.blk, ?_⟩
  have ew : IntKind.wrap .u32 ((x.cnt : Int) - 1) = ((x.cnt - 1 : Nat) : Int) := by rw [IntKind.wrap_u32]; omega
  rw [ew]
  obtain ⟨H1, hH1⟩ : ∃ H1, H1 = h.setCell ⟨b, 2, none⟩ (.int .u32 ((x.cnt - 1 : Nat) : Int)) := ⟨_, rfl⟩
  rw [← hH1]
  have blk1 : H1 b = some (.cells (pxc (dnx x) a cap).toArray T.proxy_proxy (0, 0)) := by rw [hH1, setCell_blk r.blk]; rfl
  have n21 : ((2, 2 * i) : Rg) ≠ (2, 2 * i + 1) := fun e => by simp at e
  have q1 : Chg (pcR i) h c H1 c := by rw [hH1]; exact (Chg.refl w).set (.inr (by rw [r.col]; exact .inl rfl))
  have row1 : Sl H1 c (2, 2 * i + 1) T.api_Objref 36 a x.has.length cap (ocs x.has) := r.row.keep (by rw [hH1]; exact Same.set (by rw [r.col]; exact n21))
  have w1 := q1.wf
  have tb1 : PxAt H1 c i b (dnx x) n := ⟨a, cap, blk1, r.col, row1, r.ok, r.len, r.ox, by show x.cnt - 1 < _; omega⟩
  have t1 := tA.one w hs hst hx q1 tb1 (Nat.le_refl _)
  refine ⟨((x.cnt - 1 : Nat) : Int), by rw [cell_of blk1]; rfl, bcase_intro (fun hd => ?_) fun hd => ?_⟩
  · have hd := of_decide_eq_true hd
    unfold proxy_Proxies_Down.k0
    simp only [Addr.add_mk, Nat.zero_add]
    rw [ew, ← hH1]
    exact h1 i s x e hL (by omega) H1 c ⟨A, t1⟩ (q1.weak fun r hr => pcR_pr hr)
  · have hd := of_decide_eq_false hd
    have hcnt : x.cnt = 1 := by omega
    unfold proxy_Proxies_Down.k5
    simp only [someD_some, Addr.add_mk, Nat.zero_add]
    rw [ew, ← hH1]
    refine ⟨_, by rw [cell_of t1.blk]; rfl, Drop_spec t1.ar w1 hz (by have := tA.cap; omega) (fun e' => by rw [e] at e'; cases e') fun i' s' h4 c4 e' ar4 q4 => ⟨_, _, rfl, ?_⟩⟩
    rw [e] at e'; cases e'
    have t4 := t1.dropped w1 hs ar4 q4
    rw [setL_setL] at t4
    have q04 : Chg prR h c h4 c4 := (q1.weak fun r hr => pcR_pr hr).trans (q4.weak fun r hr => .inl hr)
    obtain ⟨b4, cb4⟩ := q4.keep b (by rw [blk1]; simp) (by rw [r.col]; simp)
    have blk4 := b4.trans blk1
    have row4 : Sl h4 c4 (2, 2 * i + 1) T.api_Objref 36 a x.has.length cap (ocs x.has) := row1.keep (q4.same w1 fun r hr => by rw [hr]; simp)
    unfold proxy_Proxies_Down.k4
    simp only [someD_some, Addr.add_mk, Nat.zero_add]
    refine ⟨x.cut, by rw [cell_of blk4]; rfl, bcase_intro (fun hcut => ?_) fun hcut => ?_⟩
    · unfold proxy_Proxies_Down.k1
      exact h2 i s x e hL hcnt hcut h4 c4 ⟨A, t4⟩ q04
    · unfold proxy_Proxies_Down.k3
      simp only [someD_some, Addr.add_mk, Nat.zero_add]
      refine ⟨_, _, _, by rw [cell_of blk4]; rfl, ?_⟩
      refine hsrt hcnt hcut h4 c4 (2, 2 * i + 1) a cap _ (by simp) row4 q4.wf fun l' h5 pm hR s5 q5 => ?_
      unfold proxy_Proxies_Down.k2
      obtain ⟨b5, -⟩ := q5.keep b (by rw [blk4]; simp) (by rw [cb4.trans r.col]; exact n21)
      have blk5 := b5.trans blk4
      simp only [someD_some, Addr.add_mk, Nat.zero_add]
      refine ⟨_, _, _, by rw [cell_of blk5]; rfl, ?_⟩
      have el : x.has.length = l'.length := pm.length_eq.symm
      have el' : (dnx x).has.length = l'.length := el
      rw [el'] 
      rw [el] at s5
      have t5 : PStA h5 c4 Pp most (sp.set i (gone s)) (fr ++ freed s i) (setL L i none) (n + 1) A := by
        obtain ⟨e1, e2⟩ := q5.same q4.wf (Q := fun r => r = (4, 0)) (fun r hr => by rw [hr]; exact ⟨by simp, by simp⟩) Pp t4.col
        refine ⟨e1.trans t4.blk, t4.col, t4.ar.keep (q5.same q4.wf fun r hr => ⟨by rintro rfl; simp at hr, by rintro rfl; simp at hr⟩), fun j z hz' hzt => ?_, t4.non, t4.out, t4.cap⟩
        have e : j ≠ i := fun e => by
          subst e
          have hi := (List.getElem?_eq_some_iff.1 hs).1
          rw [List.getElem?_set, if_pos rfl, if_pos hi] at hz'; cases hz'
          have : (gone s).t = false := by unfold gone; split <;> rfl
          rw [this] at hzt; cases hzt
        obtain ⟨b', y', g1, g2, g3⟩ := t4.has j z hz' hzt
        exact ⟨b', y', g1, g2, g3.keep (q5.same q4.wf fun r hr => ⟨pcR_z hr, fun e' => pcR_ne hr e (.inr e')⟩)⟩
      exact h3 i s x e hL hcnt hcut l' a cap h5 c4 pm hR (fun o ho => r.ok o (pm.mem_iff.1 ho)) ⟨A, t5⟩ s5 (q04.trans (q5.weak fun r hr => .inr (.inl (by rw [hr]))))
end Go.Den.Proxy
end

section
set_option linter.unusedVariables false
set_option maxRecDepth 100000
theorem Go.Den.Step.over {h h1 h2 : Go.Den.Hp} {o o' : List Nat} (s : Go.Den.Step [] h [] h1) (t : Go.Den.Step o h1 o' h2) (ho : ∀ k ∈ o, h k = none) : Go.Den.Step [] h [] h2 :=
  ⟨fun k hk _ => (t.keep k (s.dom k hk) fun hm => hk (ho k hm)).trans (s.keep k hk (by simp)), by simp, fun k hk => t.dom k (s.dom k hk)⟩
namespace Go.Den.Proxy
open Go Go.Den
variable {h h' : Hp} {c c' : Col} {K : Value → Hp → Prop} {z : Int}

theorem call_pAll_1 : callable P proxy_Proxies_All_1.n = true := by kernel_rfl
end Go.Den.Proxy
end

