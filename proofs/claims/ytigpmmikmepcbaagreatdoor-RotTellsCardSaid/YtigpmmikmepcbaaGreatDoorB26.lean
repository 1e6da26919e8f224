import Derived.Test.YtigpmmikmepcbaaGreatDoorB25
import Derived.Laws.Bits64b
import Derived.Lib.Bytealg
import Derived.Shelf.LaysC
import Derived.Shelf.Strconv.ToError
import Derived.Shelf.Strings.Repeat
import Derived.Shelf.Strings.CaseAny
import Derived.Test.YtigpmmikmepcbaaGreatDoorProg
import Derived.KernelRfl
/- Texts that the claim needs, joined. -/
section
set_option linter.unusedVariables false
set_option maxRecDepth 100000
namespace Go.Den
theorem cellsAt_blk {h : Hp} {b : Nat} {cs : Array Value} {T : TypeId} {f : Nat × Nat} {n : Nat} (hb : h b = some (.cells cs T f)) (hn : cs.size = n) : CellsAt h ⟨b, 0, none⟩ n cs :=
  ⟨hn, fun j v hv => by rw [Addr.add_mk, cell_of hb, Nat.zero_add]; exact hv⟩
theorem setCells_blk {h : Hp} {b : Nat} {cs z : Array Value} {T : TypeId} (hb : h b = some (.cells z T (0, 0))) (hn : z.size = cs.size) : h.setCells ⟨b, 0, none⟩ cs = h.put b (.cells cs T (0, 0)) := by
  unfold Hp.setCells
  rw [setCellsFrom_split (b := b) (off := 0) (T := T) (f := (0, 0)) cs.toList z.toList [] [] 0 h (by rw [hb]; simp) rfl (by simpa using hn)]
  simp
theorem free_blk {h : Hp} {b : Nat} {z : Array Value} {T : TypeId} {n : Nat} (hb : h b = some (.cells z T (0, 0))) (hn : z.size = n) : Free h ⟨b, 0, none⟩ n := by
  intro j hj
  rw [Addr.add_mk]
  refine ⟨?_, frozen_of hb⟩
  rw [cell_of hb, Nat.zero_add]
  exact ⟨_, Array.getElem?_eq_getElem (by omega)⟩
end Go.Den
namespace Go.Den.Mon
open Go Go.Den
variable {h : Hp} {c : Col} {K : Value → Hp → Prop}
def Holds (h : Hp) : Value → Hp → Prop := fun v h' => v = .bool true ∧ Step [] h [] h'
theorem bcT {b : Bool} {A B : Prop} (h : b = true) (hk : A) : bcase b A B := by subst h; exact hk
theorem bcF {b : Bool} {A B : Prop} (h : b = false) (hk : B) : bcase b A B := by subst h; exact hk
theorem wrapN {n : Int} {m : Nat} (h : n = m) (hm : m < 9223372036854775808) : IntKind.i64.wrap n = (m : Int) := by rw [h, wrap_id (by omega) (by omega)]
theorem wrapU64 {n : Int} {m : Nat} (h : n = m) (hm : m < 18446744073709551616) : IntKind.u64.wrap n = (m : Int) := by rw [h, IntKind.wrap_u64]; omega
theorem wrapN8 {n : Int} {m : Nat} (h : n = m) (hm : m < 256) : IntKind.u8.wrap n = (m : Int) := by rw [h, IntKind.wrap_u8]; omega
/-! ### Names -/
def gvs (g : List Nat) : List Value := g.map fun (x : Nat) => .int .u8 (x : Int)
def gcs (g : List Nat) : Array Value := (gvs g).toArray
def isG (g : List Nat) : Prop := g.length = 16 ∧ ∀ x ∈ g, x < 256
theorem gvs_len {g : List Nat} : (gvs g).length = g.length := by simp [gvs]
theorem gcs_size {g : List Nat} : (gcs g).size = g.length := by simp [gcs, gvs]
theorem gcs_cellish {g : List Nat} : ∀ v ∈ (gcs g).toList, cellish v = true := by intro v hv; simp [gcs, gvs] at hv; obtain ⟨x, -, rfl⟩ := hv; rfl
theorem gvs_cellish {g : List Nat} : ∀ v ∈ gvs g, cellish v = true := by intro v hv; simp [gvs] at hv; obtain ⟨x, -, rfl⟩ := hv; rfl
theorem gvs_inj {a b : List Nat} (e : gvs a = gvs b) : a = b := by
  induction a generalizing b with
  | nil => cases b with | nil => rfl | cons => simp [gvs] at e
  | cons x a ih =>
    cases b with
    | nil => simp [gvs] at e
    | cons y b =>
      simp only [gvs, List.map_cons, List.cons.injEq, Value.int.injEq, true_and] at e
      obtain ⟨e1, e2⟩ := e
      rw [ih e2, Int.ofNat.inj e1]
theorem gcs_inj {a b : List Nat} (e : gcs a = gcs b) : a = b := gvs_inj (by simpa [gcs] using e)
theorem aggEq_gcs {a b : List Nat} : aggEq (gcs a) (gcs b) = decide (a = b) := by
  rw [Bool.eq_iff_iff, aggEq_true, decide_eq_true_iff]
  exact ⟨gcs_inj, fun e => by rw [e]⟩
theorem kinds_guid : kindsOf P 8 T.api_Guid = some (List.replicate 16 .u8) := by kernel_rfl
theorem kindsAt_gvs : ∀ {g : List Nat} {n : Nat}, g.length = n → KindsAt (List.replicate n .u8) (gvs g)
  | [], _, rfl => trivial
  | x :: g, _, rfl => ⟨⟨_, rfl⟩, kindsAt_gvs (g := g) rfl⟩
theorem intCells_guid {g : List Nat} (hg : g.length = 16) : IntCells P T.api_Guid (gcs g) := ⟨_, kinds_guid, by simpa [gcs] using kindsAt_gvs hg⟩
def z16 : List Nat := [0, 0, 0, 0, 0, 0, 0, 0, 0, 0, 0, 0, 0, 0, 0, 0]
theorem z16_is : isG z16 := ⟨rfl, by decide⟩
theorem gcs_z16 : gcs z16 = zGuid := rfl
theorem gcs_get {g : List Nat} {j : Nat} : (gcs g)[j]? = (g[j]?).map fun (x : Nat) => (.int .u8 (x : Int) : Value) := by simp [gcs, gvs]
theorem gcs_set {g : List Nat} {j x : Nat} : (gcs g).setIfInBounds j (.int .u8 (x : Int)) = gcs (g.set j x) := by
  apply Array.ext'
  simp [gcs, gvs, List.map_set]
/-! ### Bytes -/
def bvs (l : List UInt8) : List Value := l.map fun (b : UInt8) => .int .u8 (b.toNat : Int)
theorem bvs_len {l : List UInt8} : (bvs l).length = l.length := by simp [bvs]
theorem bvs_cellish {l : List UInt8} : ∀ v ∈ bvs l, cellish v = true := by intro v hv; simp [bvs] at hv; obtain ⟨x, -, rfl⟩ := hv; rfl
theorem bvs_app {l l' : List UInt8} : bvs (l ++ l') = bvs l ++ bvs l' := by simp [bvs]
theorem slU8 : SliceTy P T.sl_uint8 T.uint8 1 := sliceTy_of (by kernel_rfl)
theorem pushB {a : Option Addr} {len cap b n : Nat} {o : List Nat} {bs ws : List UInt8} (s : SlAt h T.uint8 1 AnyV a len cap (bvs bs) o) (hb : h b = none) (hw : ws.length = n) (hn : len + n < 2 ^ 32)
    (hk : ∀ a' cap' o' h', SlAt h' T.uint8 1 AnyV a' (len + n) cap' (bvs (bs ++ ws)) o' → Step o h o' h' → K (.slice a' (len + n) cap') h') :
    wpSem P (Builtin.append_ #[T.sl_uint8, T.sl_uint8] T.sl_uint8 #[.slice a len cap, .slice (some ⟨b, 0, none⟩) n n]) K (h.put b (.cells (bvs ws).toArray T.uint8 (0, 0))) := by
  have nb : ∀ k ∈ o, k ≠ b := fun k hk e => s.mem k hk (by rw [e]; exact hb)
  refine append_wp (P := P) (Z := AnyV) (cs := bvs ws) (n := n) slU8 slU8.1 (s.keep fun k hk => put_ne (nb k hk)) (fun _ _ _ _ _ _ => trivial) (.some ⟨by simp [bvs_len, hw], fun j v hv => by rw [Addr.add_mk, cell_of put_self, Nat.zero_add]; exact hv⟩) bvs_cellish hn fun a' cap' o' h' s1 _ st => ?_
  rw [← bvs_app] at s1
  exact hk a' cap' o' h' s1 ((Step.put (.inr hb)).trans st)
theorem bytes_str (l : List UInt8) (h : Hp) (K : Value → Hp → Prop) : ∀ (acc : ByteArray), K (.string ⟨acc.data ++ l.toArray⟩) h →
    wpSem P (do let mut s := acc
                for c in (bvs l).toArray do
                  let .int .u8 n := c | stuck "bytesToString: byte expected"
                  s := s.push (UInt8.ofNat n.toNat)
                pure (.string s)) K h := by
  simp only [List.forIn_toArray]
  induction l with
  | nil => intro acc hk; simp [bvs]; exact wp_pure (by simpa using hk)
  | cons b l ih =>
    intro acc hk
    have := ih (acc.push b) (by
      have e : (acc.push b).data ++ l.toArray = acc.data ++ (b :: l).toArray := by apply Array.ext'; simp [ByteArray.push]
      rw [e]; exact hk)
    simp only [bvs, List.map_cons, List.forIn_cons, Int.toNat_natCast, UInt8.ofNat_toNat, pure_bind]
    exact this
theorem bytesStr_wp {a : Option Addr} {len cap : Nat} {bs : List UInt8} (s : SrcAt h 1 (.slice a len cap) len (bvs bs)) (hk : K (.string ⟨bs.toArray⟩) h) : wpSem P (convDark T.sl_uint8 T.string (.slice a len cap)) K h := by
  have u1 : P.underlying T.sl_uint8 = some (.slice T.uint8) := by kernel_rfl
  have u2 : P.underlying T.string = some .string := by kernel_rfl
  have u3 : P.underlying T.uint8 = some (.int .u8) := by kernel_rfl
  show wpSem P (convert T.sl_uint8 T.string (.slice a len cap)) K h
  unfold convert
  refine wpSem_bind _ _ _ _ (wp_underlying u1 ?_)
  refine wpSem_bind _ _ _ _ (wp_underlying u2 ?_)
  refine wpSem_bind _ _ _ _ (wp_underlying u3 ?_)
  show wpSem P (Conv.bytesToString (.slice a len cap)) K h
  generalize hv : bvs bs = vs at s
  cases s with
  | none =>
    have : bs = [] := by
      cases bs with
      | nil => rfl
      | cons b bs => simp [bvs] at hv
    subst this
    exact hk
  | some hc =>
    subst hv
    refine wpSem_bind _ _ _ _ (wp_loadCells (by simpa using hc) ?_)
    refine bytes_str bs h K .empty ?_
    have e : ((ByteArray.empty).data ++ bs.toArray) = bs.toArray := by
      show (#[] : Array UInt8) ++ bs.toArray = _
      simp
    rw [e]; exact hk
theorem indexByte_wp {s : ByteArray} {n : Nat} (hk : K (.int .i64 (Lib.indexByte s.data.toList n.toUInt8)) h) : wpSem P (Extern.BytealgIndexByte.indexByte #[.string s, .int .u8 (n : Int)]) K h := by
  rw [← Lib.firstIdx_eq] at hk
  unfold Go.firstIdx at hk
  unfold Extern.BytealgIndexByte.indexByte
  refine wpSem_bind _ _ _ _ (wp_pure (P := P) ?_)
  refine wpSem_bind _ _ _ _ (wp_pure (P := P) ?_)
  simp only [Int.toNat_natCast]
  split <;> rename_i e <;> rw [e] at hk <;> exact wp_pure (P := P) hk
/-! ### Digits -/
def hv (n : Nat) : Int := if 48 ≤ n ∧ n ≤ 57 then (n : Int) - 48 else if 97 ≤ n ∧ n ≤ 102 then (n : Int) - 87 else if 65 ≤ n ∧ n ≤ 70 then (n : Int) - 55 else -1
abbrev hexs : ByteArray := ⟨#[48, 49, 50, 51, 52, 53, 54, 55, 56, 57, 97, 98, 99, 100, 101, 102]⟩
theorem index_hexs : ((List.range 256).all fun n => Lib.indexByte hexs.data.toList n.toUInt8 == (if 48 ≤ n ∧ n ≤ 57 then (n : Int) - 48 else if 97 ≤ n ∧ n ≤ 102 then (n : Int) - 87 else -1)) = true := by decide +kernel
theorem index_hex {n : Nat} (hn : n < 256) : Lib.indexByte hexs.data.toList n.toUInt8 = (if 48 ≤ n ∧ n ≤ 57 then (n : Int) - 48 else if 97 ≤ n ∧ n ≤ 102 then (n : Int) - 87 else -1) := by
  simpa using List.all_eq_true.1 index_hexs n (List.mem_range.2 hn)
theorem sIndex_spec {s : ByteArray} {n : Nat} (hk : K (.int .i64 (Lib.indexByte s.data.toList n.toUInt8)) h) : HC P strings_IndexByte.n #[.string s, .int .u8 (n : Int)] h K := by
  refine strings_IndexByte.hc ?_
  unfold strings_IndexByte
  refine internal_stringslite_IndexByte.hc ?_
  unfold internal_stringslite_IndexByte
  exact indexByte_wp ⟨_, rfl, _, rfl, hk⟩
theorem digit_spec {n : Nat} (hn : n < 256) (hk : K (.int .i64 (hv n)) h) : HC P guid_digit.n #[.int .u8 (n : Int)] h K := by
  refine guid_digit.hc ?_
  unfold guid_digit
  have k1 : (¬ (65 ≤ n ∧ n ≤ 70)) → guid_digit.k1 n h K := fun hc => by
    unfold guid_digit.k1
    refine sIndex_spec ⟨_, rfl, ?_⟩
    have e : hv n = Lib.indexByte hexs.data.toList n.toUInt8 := by
      rw [index_hex hn]; unfold hv
      by_cases a1 : 48 ≤ n ∧ n ≤ 57
      · rw [if_pos a1, if_pos a1]
      rw [if_neg a1, if_neg a1]
      by_cases a2 : 97 ≤ n ∧ n ≤ 102
      · rw [if_pos a2, if_pos a2]
      rw [if_neg a2, if_neg a2, if_neg hc]
    rw [e] at hk; exact hk
  refine bcase_intro (fun h1 => ?_) fun h1 => ?_
  · have h1 := of_decide_eq_true h1
    unfold guid_digit.k2
    refine bcase_intro (fun h2 => ?_) fun h2 => ?_
    · have h2 := of_decide_eq_true h2
      unfold guid_digit.k0
      rw [wrapN8 (m := n + 32) (by simp) (by omega)]
      refine sIndex_spec ⟨_, rfl, ?_⟩
      have e : hv n = Lib.indexByte hexs.data.toList (n + 32).toUInt8 := by rw [index_hex (by omega)]; unfold hv; split <;> split <;> omega
      rw [e] at hk; exact hk
    · have h2 := of_decide_eq_false h2
      exact k1 (by omega)
  · have h1 := of_decide_eq_false h1
    exact k1 (by omega)
def dash (i : Nat) : Bool := decide (i = 4 ∨ i = 6 ∨ i = 8 ∨ i = 10)
theorem dash_spec {i : Nat} (hk : K (.bool (dash i)) h) : HC P guid_dash.n #[.int .i64 (i : Int)] h K := by
  refine guid_dash.hc ?_
  unfold guid_dash
  refine bcase_intro (fun h1 => ?_) fun h1 => ?_
  · have : dash i = true := by unfold dash; simp at h1 ⊢; omega
    rw [this] at hk; exact hk
  unfold guid_dash.k0
  refine bcase_intro (fun h2 => ?_) fun h2 => ?_
  · have : dash i = true := by unfold dash; simp at h2 ⊢; omega
    rw [this] at hk; exact hk
  refine bcase_intro (fun h3 => ?_) fun h3 => ?_
  · have : dash i = true := by unfold dash; simp at h3 ⊢; omega
    rw [this] at hk; exact hk
  have : ((i : Int) == 10) = dash i := by
    rw [Bool.eq_iff_iff]; unfold dash; simp at h1 h2 h3 ⊢; omega
  rw [this]; exact hk
def hexc (d : Nat) : UInt8 := if d < 10 then (48 + d).toUInt8 else (87 + d).toUInt8
theorem hexc_toNat {d : Nat} (hd : d < 16) : (hexc d).toNat = if d < 10 then 48 + d else 87 + d := by
  unfold hexc
  split
  · show (48 + d) % 256 = _; omega
  · show (87 + d) % 256 = _; omega
theorem hexs_get : ((List.range 16).all fun d => hexs[d]? == some (hexc d)) = true := by decide +kernel
theorem hex_get {d : Nat} (hd : d < 16) : hexs[d]? = some (hexc d) := by simpa using List.all_eq_true.1 hexs_get d (List.mem_range.2 hd)
end Go.Den.Mon
end

section
set_option linter.unusedVariables false
set_option maxRecDepth 100000
namespace Go.Den.Mon
open Go Go.Den
variable {h : Hp} {K : Value → Hp → Prop}
structure Raw where
  kind : Int
  id : List Nat
  txt : ByteArray
  H : Nat
  sa : Option Addr
  sn : Nat
  sc : Nat
structure Raw.Ok (x : Raw) : Prop where
  id : isG x.id
  H : x.H < 18446744073709551616
  kind : -9223372036854775808 ≤ x.kind ∧ x.kind < 9223372036854775808
  txt : x.txt.size ≤ 9223372036854775807
def mc (x : Raw) : List Value := .int .i64 x.kind :: (gvs x.id ++ [.string x.txt, .int .u64 (x.H : Int), .slice x.sa x.sn x.sc])
def nl : Raw := ⟨0, z16, ⟨#[]⟩, 0, none, 0, 0⟩
section
variable {x : Raw}
theorem mc_len (k : x.Ok) : (mc x).length = 20 := by simp [mc, gvs_len, k.id.1]
theorem mc_cellish : ∀ v ∈ (mc x).toArray.toList, cellish v = true := by
  intro v hv
  simp only [mc, List.mem_cons, List.mem_append, List.not_mem_nil, or_false] at hv
  rcases hv with rfl | hv | rfl | rfl | rfl
  · rfl
  · exact gvs_cellish v hv
  · rfl
  · rfl
  · rfl
theorem mc_hi (k : x.Ok) (j : Nat) : (mc x)[17 + j]? = [Value.string x.txt, .int .u64 (x.H : Int), .slice x.sa x.sn x.sc][j]? := by
  unfold mc
  rw [show 17 + j = (16 + j) + 1 by omega, List.getElem?_cons_succ, List.getElem?_append_right (by rw [gvs_len, k.id.1]; omega), gvs_len, k.id.1, Nat.add_sub_cancel_left]
theorem mc_id (k : x.Ok) {j : Nat} (hj : j < 16) : (mc x)[1 + j]? = (gvs x.id)[j]? := by
  unfold mc
  rw [Nat.add_comm 1, List.getElem?_cons_succ, List.getElem?_append_left (by rw [gvs_len, k.id.1]; exact hj)]
end
def MB (h : Hp) (b : Nat) (x : Raw) : Prop := h b = some (.cells (mc x).toArray T.api_Moniker (0, 0))
section
variable {b : Nat} {x : Raw} {h' : Hp}
theorem MB.at (m : MB h b x) (j : Nat) : h.cell? ⟨b, j, none⟩ = (mc x)[j]? := by rw [cell_of m, List.getElem?_toArray]
theorem MB.kind (m : MB h b x) : h.cell? ⟨b, 0, none⟩ = some (.int .i64 x.kind) := by rw [m.at]; rfl
theorem MB.txt (m : MB h b x) (k : x.Ok) : h.cell? ⟨b, 17, none⟩ = some (.string x.txt) := by rw [m.at, mc_hi k 0]; rfl
theorem MB.H (m : MB h b x) (k : x.Ok) : h.cell? ⟨b, 18, none⟩ = some (.int .u64 (x.H : Int)) := by rw [m.at, mc_hi k 1]; rfl
theorem MB.L (m : MB h b x) (k : x.Ok) : h.cell? ⟨b, 19, none⟩ = some (.slice x.sa x.sn x.sc) := by rw [m.at, mc_hi k 2]; rfl
theorem MB.id (m : MB h b x) (k : x.Ok) : CellsAt h ⟨b, 1, none⟩ 16 (gcs x.id) := by
  refine ⟨by rw [gcs_size, k.id.1], fun j v hv => ?_⟩
  have hj : j < 16 := by have := (Array.getElem?_eq_some_iff.1 hv).1; rwa [gcs_size, k.id.1] at this
  rw [Addr.add_mk, m.at, mc_id k hj, ← hv]
  simp [gcs]
theorem MB.all (m : MB h b x) (k : x.Ok) : CellsAt h ⟨b, 0, none⟩ 20 (mc x).toArray := cellsAt_blk m (by simpa using mc_len k)
theorem MB.step (m : MB h b x) (s : Step [] h [] h') : MB h' b x := s.keepB0 m
theorem MB.setT {s : ByteArray} (m : MB h b x) (k : x.Ok) : MB (h.setCell ⟨b, 17, none⟩ (.string s)) b { x with txt := s } := by
  unfold MB
  rw [setCell_blk m]
  congr 2
  apply Array.ext'
  simp only [Array.toList_setIfInBounds]
  unfold mc
  rw [show (17 : Nat) = 16 + 1 from rfl, List.set_cons_succ, List.set_append_right _ _ (by rw [gvs_len, k.id.1]; omega), gvs_len, k.id.1]
  rfl
theorem MB.setH {n : Nat} (m : MB h b x) (k : x.Ok) : MB (h.setCell ⟨b, 18, none⟩ (.int .u64 (n : Int))) b { x with H := n } := by
  unfold MB
  rw [setCell_blk m]
  congr 2
  apply Array.ext'
  simp only [Array.toList_setIfInBounds]
  unfold mc
  rw [show (18 : Nat) = 17 + 1 from rfl, List.set_cons_succ, List.set_append_right _ _ (by rw [gvs_len, k.id.1]; omega), gvs_len, k.id.1]
  rfl
theorem MB.setId {g : List Nat} (m : MB h b x) (k : x.Ok) (hg : g.length = 16) : h.setCells ⟨b, 1, none⟩ (gcs g) = h.put b (.cells (mc { x with id := g }).toArray T.api_Moniker (0, 0)) ∧ Free h ⟨b, 1, none⟩ 16 := by
  have hb : h b = some (.cells ([Value.int .i64 x.kind] ++ (gvs x.id ++ [Value.string x.txt, .int .u64 (x.H : Int), .slice x.sa x.sn x.sc])).toArray T.api_Moniker (0, 0)) := m
  constructor
  · unfold Hp.setCells gcs
    rw [List.toList_toArray, setCellsFrom_split (b := b) (off := 1) (T := T.api_Moniker) (f := (0, 0)) (gvs g) (gvs x.id) [Value.int .i64 x.kind] _ 0 h hb rfl (by rw [gvs_len, gvs_len, k.id.1, hg])]
    rfl
  · intro j hj
    rw [Addr.add_mk]
    exact ⟨⟨_, by rw [m.at, mc_id k hj]; exact List.getElem?_eq_getElem (by rw [gvs_len, k.id.1]; exact hj)⟩, frozen_of m⟩
end
end Go.Den.Mon
end

section
set_option linter.unusedVariables false
set_option maxRecDepth 100000
namespace Go.Den.Mon
open Go Go.Den
variable {h : Hp} {K : Value → Hp → Prop}
abbrev zMon : Array Value := #[.int .i64 0, .int .u8 0, .int .u8 0, .int .u8 0, .int .u8 0, .int .u8 0, .int .u8 0, .int .u8 0, .int .u8 0, .int .u8 0, .int .u8 0, .int .u8 0, .int .u8 0, .int .u8 0, .int .u8 0, .int .u8 0, .int .u8 0, .string (⟨#[]⟩ : ByteArray), .int .u64 0, .slice none 0 0]
def rpart (x : Raw) : Bool :=
  if x.kind = 1 then decide (x.id = z16 ∧ x.H = 0 ∧ x.sn = 0 ∧ x.txt.size ≤ 256)
  else if x.kind = 2 then decide (x.txt.size = 0 ∧ x.H = 0 ∧ x.sn = 0)
  else if x.kind = 3 then decide (x.txt.size = 0 ∧ x.id = z16 ∧ x.sn = 0)
  else if x.kind = 4 then decide (x.txt.size = 0 ∧ x.id = z16 ∧ x.H = 0 ∧ x.sn = 0)
  else false
theorem txt_nil {s : ByteArray} : (ByteArray.toList s == []) = decide (s.size = 0) := by
  rw [Bool.eq_iff_iff, beq_iff_eq, decide_eq_true_iff, ByteArray.toList_eq]
  have e : s.size = s.data.toList.length := by rw [Lib.size_eq]
  rw [e]
  exact List.length_eq_zero_iff.symm
theorem aggZ {g : List Nat} : aggEq (gcs g) zGuid = decide (g = z16) := aggEq_gcs (b := z16)
theorem part_spec {x : Raw} (k : x.Ok) (hk : ∀ h', Step [] h [] h' → K (.bool (rpart x)) h') : HC P moniker_part.n #[.agg (mc x).toArray] h K := by
  refine moniker_part.hc ?_
  unfold moniker_part
  intro b0 hb0
  refine ⟨(mc x).toArray, cellsAt_blk put_self (by simpa using mc_len k), fun b1 hb1 => ?_⟩
  obtain ⟨n10, hb1'⟩ := put_none hb1
  have sz : (mc x).toArray.size = 20 := by simpa using mc_len k
  obtain ⟨H, hH⟩ : ∃ H, H = (h.put b0 (.cells (mc x).toArray T.api_Moniker (0, 0))).put b1 (.cells (mc x).toArray T.api_Moniker (0, 0)) := ⟨_, rfl⟩
  have e1 : ((h.put b0 (.cells (mc x).toArray T.api_Moniker (0, 0))).put b1 (.cells zMon T.api_Moniker (0, 0))).setCells ⟨b1, 0, none⟩ (mc x).toArray = H := by
    rw [setCells_blk (z := zMon) put_self (by rw [sz]; rfl), put_put, hH]
  have M0 : MB H b0 x := by rw [hH]; show _ = _; rw [put_ne (Ne.symm n10), put_self]
  have M1 : MB H b1 x := by rw [hH]; show _ = _; rw [put_self]
  have st : Step [] h [b1] H := by rw [hH]; exact (Step.put (.inr hb0)).trans (Step.new hb1)
  have nb : b0 ≠ b1 := Ne.symm n10
  have fr : ∀ {X : Hp}, Step [b1] H [b1] X → Step [] h [] X := fun s => (st.trans s).forget0
  have fin : ∀ {X : Hp} {r : Bool}, r = rpart x → Step [b1] H [b1] X → K (.bool r) X := fun e s => by rw [e]; exact hk _ (fr s)
  refine ⟨sz, mc_cellish, free_blk put_self rfl, x.kind, by rw [e1, Addr.add_mk]; exact M0.kind, bcase_intro (fun c1 => ?_) fun c1 => ?_⟩
  · have c1 : x.kind = 1 := by simpa using c1
    have rp : rpart x = decide (x.id = z16 ∧ x.H = 0 ∧ x.sn = 0 ∧ x.txt.size ≤ 256) := by unfold rpart; rw [if_pos c1]
    obtain ⟨X, hX⟩ : ∃ X, X = H.setCell ⟨b1, 17, none⟩ (.string (⟨#[]⟩ : ByteArray)) := ⟨_, rfl⟩
    have k2 : Raw.Ok { x with txt := ⟨#[]⟩ } := ⟨k.id, k.H, k.kind, by show (0 : Nat) ≤ _; omega⟩
    have M2 : MB X b1 { x with txt := ⟨#[]⟩ } := by rw [hX]; exact M1.setT k
    have M3 : MB X b0 x := by rw [hX]; show _ = _; rw [setCell_ne nb]; exact M0
    have sX : Step [b1] H [b1] X := by rw [hX]; exact Step.setCell M1 (by simp)
    have no : rpart x = false → moniker_part.k1 K h b0 (mc x).toArray b1 (mc x).toArray := fun e => by
      unfold moniker_part.k1
      rw [e1, Addr.add_mk, ← hX]
      exact fin e.symm sX
    unfold moniker_part.k5
    simp only [Addr.add_mk, Nat.zero_add]
    rw [e1, ← hX]
    refine ⟨⟨_, M1.txt k⟩, frozen_of M1, _, M2.txt k2, bcT (by rw [txt_nil]; rfl) ?_⟩
    unfold moniker_part.k4
    simp only [Addr.add_mk, Nat.zero_add]
    rw [e1, ← hX]
    refine ⟨_, M2.id k2, trivial, intCells_guid k.id.1, intCells_guid z16_is.1, ?_⟩
    rw [aggZ]
    refine bcase_intro (fun d => ?_) fun d => no (by rw [rp]; exact decide_eq_false fun q => of_decide_eq_false d q.1)
    have d := of_decide_eq_true d
    unfold moniker_part.k3
    simp only [Addr.add_mk, Nat.zero_add]
    rw [e1, ← hX]
    refine ⟨_, M2.H k2, bcase_intro (fun d2 => ?_) fun d2 => no (by rw [rp]; exact decide_eq_false fun q => by rw [show ({ x with txt := ⟨#[]⟩ } : Raw).H = x.H from rfl, q.2.1] at d2; simp at d2)⟩
    have d2 : x.H = 0 := by
      have : ((x.H : Nat) : Int) = 0 := by simpa using d2
      omega
    unfold moniker_part.k2
    simp only [Addr.add_mk, Nat.zero_add]
    rw [e1, ← hX]
    refine ⟨_, _, _, M2.L k2, bcase_intro (fun d3 => ?_) fun d3 => no (by rw [rp]; exact decide_eq_false fun q => by rw [show ({ x with txt := ⟨#[]⟩ } : Raw).sn = x.sn from rfl, q.2.2.1] at d3; simp at d3)⟩
    have d3 : x.sn = 0 := by
      have : ((x.sn : Nat) : Int) = 0 := by simpa using d3
      omega
    unfold moniker_part.k0
    simp only [Addr.add_mk, Nat.zero_add]
    rw [e1, ← hX]
    refine ⟨_, M3.txt k, fin ?_ sX⟩
    rw [rp, Bool.eq_iff_iff, decide_eq_true_iff, decide_eq_true_iff]
    exact ⟨fun q => ⟨d, d2, d3, by omega⟩, fun q => by have := q.2.2.2; omega⟩
  have c1 : x.kind ≠ 1 := by simpa using c1
  unfold moniker_part.k26
  refine bcase_intro (fun c2 => ?_) fun c2 => ?_
  · have c2 : x.kind = 2 := by simpa using c2
    have rp : rpart x = decide (x.txt.size = 0 ∧ x.H = 0 ∧ x.sn = 0) := by unfold rpart; rw [if_neg c1, if_pos c2]
    obtain ⟨X, hX⟩ : ∃ X, X = H.setCells ⟨b1, 1, none⟩ zGuid := ⟨_, rfl⟩
    have k2 : Raw.Ok { x with id := z16 } := ⟨z16_is, k.H, k.kind, k.txt⟩
    obtain ⟨eX, fX⟩ := M1.setId (g := z16) k rfl
    rw [gcs_z16, ← hX] at eX
    have M2 : MB X b1 { x with id := z16 } := by rw [eX]; show _ = _; rw [put_self]
    have M3 : MB X b0 x := by rw [eX]; show _ = _; rw [put_ne nb]; exact M0
    have sX : Step [b1] H [b1] X := by rw [eX]; exact Step.put (.inl (by simp))
    have no : rpart x = false → moniker_part.k7 K h b0 (mc x).toArray b1 (mc x).toArray := fun e => by
      unfold moniker_part.k7
      rw [e1, Addr.add_mk, ← hX]
      exact fin e.symm sX
    unfold moniker_part.k11
    simp only [Addr.add_mk, Nat.zero_add]
    rw [e1, ← hX]
    refine ⟨trivial, trivial, by simp [cellish], fX, _, M2.txt k2, ?_⟩
    rw [txt_nil]
    refine bcase_intro (fun d => ?_) fun d => no (by rw [rp]; exact decide_eq_false fun q => of_decide_eq_false d q.1)
    have d : x.txt.size = 0 := of_decide_eq_true d
    unfold moniker_part.k10
    simp only [Addr.add_mk, Nat.zero_add]
    rw [e1, ← hX]
    refine ⟨_, M2.id k2, trivial, intCells_guid z16_is.1, intCells_guid z16_is.1, bcT (by rw [aggZ]; simp) ?_⟩
    unfold moniker_part.k9
    simp only [Addr.add_mk, Nat.zero_add]
    rw [e1, ← hX]
    refine ⟨_, M2.H k2, bcase_intro (fun d2 => ?_) fun d2 => no (by rw [rp]; exact decide_eq_false fun q => by rw [show ({ x with id := z16 } : Raw).H = x.H from rfl, q.2.1] at d2; simp at d2)⟩
    have d2 : x.H = 0 := by
      have : ((x.H : Nat) : Int) = 0 := by simpa using d2
      omega
    unfold moniker_part.k8
    simp only [Addr.add_mk, Nat.zero_add]
    rw [e1, ← hX]
    refine ⟨_, _, _, M2.L k2, bcase_intro (fun d3 => ?_) fun d3 => no (by rw [rp]; exact decide_eq_false fun q => by rw [show ({ x with id := z16 } : Raw).sn = x.sn from rfl, q.2.2] at d3; simp at d3)⟩
    have d3 : x.sn = 0 := by
      have : ((x.sn : Nat) : Int) = 0 := by simpa using d3
      omega
    unfold moniker_part.k6
    simp only [Addr.add_mk, Nat.zero_add]
    rw [e1, ← hX]
    refine ⟨_, M3.txt k, fin ?_ sX⟩
    rw [rp, Bool.eq_iff_iff, decide_eq_true_iff, decide_eq_true_iff]
    exact ⟨fun q => ⟨d, d2, d3⟩, fun q => by omega⟩
  have c2 : x.kind ≠ 2 := by simpa using c2
  unfold moniker_part.k25
  refine bcase_intro (fun c3 => ?_) fun c3 => ?_
  · have c3 : x.kind = 3 := by simpa using c3
    have rp : rpart x = decide (x.txt.size = 0 ∧ x.id = z16 ∧ x.sn = 0) := by unfold rpart; rw [if_neg c1, if_neg c2, if_pos c3]
    obtain ⟨X, hX⟩ : ∃ X, X = H.setCell ⟨b1, 18, none⟩ (.int .u64 0) := ⟨_, rfl⟩
    have k2 : Raw.Ok { x with H := 0 } := ⟨k.id, by show (0 : Nat) < _; omega, k.kind, k.txt⟩
    have M2 : MB X b1 { x with H := 0 } := by rw [hX]; exact M1.setH (n := 0) k
    have M3 : MB X b0 x := by rw [hX]; show _ = _; rw [setCell_ne nb]; exact M0
    have sX : Step [b1] H [b1] X := by rw [hX]; exact Step.setCell M1 (by simp)
    have no : rpart x = false → moniker_part.k13 K h b0 (mc x).toArray b1 (mc x).toArray := fun e => by
      unfold moniker_part.k13
      rw [e1, Addr.add_mk, ← hX]
      exact fin e.symm sX
    unfold moniker_part.k17
    simp only [Addr.add_mk, Nat.zero_add]
    rw [e1, ← hX]
    refine ⟨⟨_, M1.H k⟩, frozen_of M1, _, M2.txt k2, ?_⟩
    rw [txt_nil]
    refine bcase_intro (fun d => ?_) fun d => no (by rw [rp]; exact decide_eq_false fun q => of_decide_eq_false d q.1)
    have d : x.txt.size = 0 := of_decide_eq_true d
    unfold moniker_part.k16
    simp only [Addr.add_mk, Nat.zero_add]
    rw [e1, ← hX]
    refine ⟨_, M2.id k2, trivial, intCells_guid k.id.1, intCells_guid z16_is.1, ?_⟩
    rw [aggZ]
    refine bcase_intro (fun d2 => ?_) fun d2 => no (by rw [rp]; exact decide_eq_false fun q => of_decide_eq_false d2 q.2.1)
    have d2 : x.id = z16 := of_decide_eq_true d2
    unfold moniker_part.k15
    simp only [Addr.add_mk, Nat.zero_add]
    rw [e1, ← hX]
    refine ⟨_, M2.H k2, bcT rfl ?_⟩
    unfold moniker_part.k14
    simp only [Addr.add_mk, Nat.zero_add]
    rw [e1, ← hX]
    refine ⟨_, _, _, M2.L k2, bcase_intro (fun d3 => ?_) fun d3 => no (by rw [rp]; exact decide_eq_false fun q => by rw [show ({ x with H := 0 } : Raw).sn = x.sn from rfl, q.2.2] at d3; simp at d3)⟩
    have d3 : x.sn = 0 := by
      have : ((x.sn : Nat) : Int) = 0 := by simpa using d3
      omega
    unfold moniker_part.k12
    simp only [Addr.add_mk, Nat.zero_add]
    rw [e1, ← hX]
    refine ⟨_, M3.txt k, fin ?_ sX⟩
    rw [rp, Bool.eq_iff_iff, decide_eq_true_iff, decide_eq_true_iff]
    exact ⟨fun q => ⟨d, d2, d3⟩, fun q => by omega⟩
  have c3 : x.kind ≠ 3 := by simpa using c3
  have no : rpart x = false → moniker_part.k19 K h b0 (mc x).toArray b1 (mc x).toArray := fun e => by
    unfold moniker_part.k19
    rw [e1]
    exact fin e.symm (Step.refl _ _)
  unfold moniker_part.k24
  refine bcase_intro (fun c4 => ?_) fun c4 => no (by unfold rpart; rw [if_neg c1, if_neg c2, if_neg c3, if_neg (by simpa using c4)])
  have c4 : x.kind = 4 := by simpa using c4
  have rp : rpart x = decide (x.txt.size = 0 ∧ x.id = z16 ∧ x.H = 0 ∧ x.sn = 0) := by unfold rpart; rw [if_neg c1, if_neg c2, if_neg c3, if_pos c4]
  unfold moniker_part.k23
  simp only [Addr.add_mk, Nat.zero_add]
  rw [e1]
  refine ⟨_, M1.txt k, ?_⟩
  rw [txt_nil]
  refine bcase_intro (fun d => ?_) fun d => no (by rw [rp]; exact decide_eq_false fun q => of_decide_eq_false d q.1)
  have d : x.txt.size = 0 := of_decide_eq_true d
  unfold moniker_part.k22
  simp only [Addr.add_mk, Nat.zero_add]
  rw [e1]
  refine ⟨_, M1.id k, trivial, intCells_guid k.id.1, intCells_guid z16_is.1, ?_⟩
  rw [aggZ]
  refine bcase_intro (fun d2 => ?_) fun d2 => no (by rw [rp]; exact decide_eq_false fun q => of_decide_eq_false d2 q.2.1)
  have d2 : x.id = z16 := of_decide_eq_true d2
  unfold moniker_part.k21
  simp only [Addr.add_mk, Nat.zero_add]
  rw [e1]
  refine ⟨_, M1.H k, bcase_intro (fun d3 => ?_) fun d3 => no (by rw [rp]; exact decide_eq_false fun q => by rw [q.2.2.1] at d3; simp at d3)⟩
  have d3 : x.H = 0 := by
    have : ((x.H : Nat) : Int) = 0 := by simpa using d3
    omega
  unfold moniker_part.k20
  simp only [Addr.add_mk, Nat.zero_add]
  rw [e1]
  refine ⟨_, _, _, M1.L k, bcase_intro (fun d4 => ?_) fun d4 => no (by rw [rp]; exact decide_eq_false fun q => by rw [q.2.2.2] at d4; simp at d4)⟩
  have d4 : x.sn = 0 := by
    have : ((x.sn : Nat) : Int) = 0 := by simpa using d4
    omega
  unfold moniker_part.k18
  simp only [Addr.add_mk, Nat.zero_add]
  rw [e1]
  refine ⟨_, M0.txt k, fin ?_ (Step.refl _ _)⟩
  rw [rp, Bool.eq_iff_iff, decide_eq_true_iff, decide_eq_true_iff]
  exact ⟨fun q => ⟨d, d2, d3, d4⟩, fun q => by omega⟩
end Go.Den.Mon
end

section
set_option linter.unusedVariables false
set_option maxRecDepth 100000
namespace Go.Den.Mon
open Go Go.Den
variable {h : Hp} {K : Value → Hp → Prop}
theorem rPart_spec {x : Raw} (k : x.Ok) (hk : ∀ h', Step [] h [] h' → K (.bool (rpart x)) h') : HC P ref21_Part.n #[.agg (mc x).toArray] h K := by
  refine ref21_Part.hc ?_
  unfold ref21_Part
  intro b0 hb0
  have M : MB (h.put b0 (.cells (mc x).toArray T.api_Moniker (0, 0))) b0 x := put_self
  have st0 : Step [] h [] (h.put b0 (.cells (mc x).toArray T.api_Moniker (0, 0))) := Step.put (.inr hb0)
  simp only [Addr.add_mk, Nat.zero_add]
  have nsn : x.sn ≠ 0 → rpart x = false := fun hn => by
    unfold rpart
    have f : ∀ {p : Prop} [Decidable p], (p → x.sn = 0) → decide p = false := fun q => decide_eq_false fun hp => hn (q hp)
    rw [f fun q => q.2.2.1, f fun q => q.2.2, f fun q => q.2.2, f fun q => q.2.2.2]
    simp
  refine ⟨_, _, _, M.L k, bcase_intro (fun d => ?_) fun d => ?_⟩
  · have : rpart x = false := nsn fun e => by rw [e] at d; simp at d
    have h2 := hk _ st0
    rw [this] at h2
    exact h2
  have hsn : x.sn = 0 := by
    have : ((x.sn : Nat) : Int) = 0 := by simpa using d
    omega
  unfold ref21_Part.k13
  refine ⟨trivial, fun b1 hb1 => ?_⟩
  obtain ⟨n10, hb1'⟩ := put_none hb1
  obtain ⟨H, hH⟩ : ∃ H, H = (h.put b0 (.cells (mc x).toArray T.api_Moniker (0, 0))).put b1 (.cells zGuid T.api_Guid (0, 0)) := ⟨_, rfl⟩
  have e1 : ((h.put b0 (.cells (mc x).toArray T.api_Moniker (0, 0))).put b1 (.cells zGuid T.api_Guid (0, 0))).setCells ⟨b1, 0, none⟩ zGuid = H := by
    rw [setCells_blk (z := zGuid) put_self rfl, put_put, hH]
  have M0 : MB H b0 x := by rw [hH]; show _ = _; rw [put_ne (Ne.symm n10)]; exact M
  have Z1 : CellsAt H ⟨b1, 0, none⟩ 16 zGuid := cellsAt_blk (by rw [hH, put_self]) rfl
  have st : Step [] h [] H := by rw [hH]; exact st0.trans (Step.put (.inr hb1))
  have fin : ∀ {r : Bool}, r = rpart x → K (.bool r) H := fun e => by rw [e]; exact hk _ st
  have no : rpart x = false → ref21_Part.k1 K h b0 (mc x).toArray b1 := fun e => by
    unfold ref21_Part.k1
    rw [e1]
    exact fin e.symm
  have iz : IntCells P T.api_Guid zGuid := by rw [← gcs_z16]; exact intCells_guid z16_is.1
  have k4' : (∀ r, (x.H = 0 ↔ r = true) → r = rpart x) → ref21_Part.k4 h b0 (mc x).toArray b1 K := fun q => by
    unfold ref21_Part.k4
    simp only [Addr.add_mk, Nat.zero_add]
    rw [e1]
    refine ⟨_, M0.H k, fin (q _ ?_)⟩
    rw [beq_iff_eq]; omega
  have tr : ∀ {a b : Prop} [Decidable a] {r : Bool}, (b ↔ r = true) → (a ↔ b) → r = decide a := fun q w => by
    rw [Bool.eq_iff_iff, decide_eq_true_iff, ← q, w]
  refine ⟨rfl, by simp [cellish], free_blk put_self rfl, x.kind, by rw [e1, Addr.add_mk]; exact M0.kind, bcase_intro (fun c1 => ?_) fun c1 => ?_⟩
  · have c1 : x.kind = 1 := by simpa using c1
    have rp : rpart x = decide (x.id = z16 ∧ x.H = 0 ∧ x.sn = 0 ∧ x.txt.size ≤ 256) := by unfold rpart; rw [if_pos c1]
    unfold ref21_Part.k3
    simp only [Addr.add_mk, Nat.zero_add]
    rw [e1]
    refine ⟨_, M0.id k, _, Z1, intCells_guid k.id.1, iz, ?_⟩
    rw [aggZ]
    refine bcase_intro (fun d => ?_) fun d => no (by rw [rp]; exact decide_eq_false fun q => of_decide_eq_false d q.1)
    have d := of_decide_eq_true d
    unfold ref21_Part.k2
    simp only [Addr.add_mk, Nat.zero_add]
    rw [e1]
    refine ⟨_, M0.H k, bcase_intro (fun d2 => ?_) fun d2 => no (by rw [rp]; exact decide_eq_false fun q => by rw [q.2.1] at d2; simp at d2)⟩
    have d2 : x.H = 0 := by
      have : ((x.H : Nat) : Int) = 0 := by simpa using d2
      omega
    unfold ref21_Part.k0
    simp only [Addr.add_mk, Nat.zero_add]
    rw [e1]
    refine ⟨_, M0.txt k, fin ?_⟩
    rw [rp, Bool.eq_iff_iff, decide_eq_true_iff, decide_eq_true_iff]
    exact ⟨fun q => ⟨d, d2, hsn, by omega⟩, fun q => by have := q.2.2.2; omega⟩
  have c1 : x.kind ≠ 1 := by simpa using c1
  unfold ref21_Part.k12
  refine bcase_intro (fun c2 => ?_) fun c2 => ?_
  · have c2 : x.kind = 2 := by simpa using c2
    have rp : rpart x = decide (x.txt.size = 0 ∧ x.H = 0 ∧ x.sn = 0) := by unfold rpart; rw [if_neg c1, if_pos c2]
    unfold ref21_Part.k5
    simp only [Addr.add_mk, Nat.zero_add]
    rw [e1]
    refine ⟨_, M0.txt k, ?_⟩
    rw [txt_nil]
    refine bcase_intro (fun d => ?_) fun d => no (by rw [rp]; exact decide_eq_false fun q => of_decide_eq_false d q.1)
    have d : x.txt.size = 0 := of_decide_eq_true d
    exact k4' fun r q => by rw [rp]; exact tr q ⟨fun w => w.2.1, fun w => ⟨d, w, hsn⟩⟩
  have c2 : x.kind ≠ 2 := by simpa using c2
  unfold ref21_Part.k11
  refine bcase_intro (fun c3 => ?_) fun c3 => ?_
  · have c3 : x.kind = 3 := by simpa using c3
    have rp : rpart x = decide (x.txt.size = 0 ∧ x.id = z16 ∧ x.sn = 0) := by unfold rpart; rw [if_neg c1, if_neg c2, if_pos c3]
    unfold ref21_Part.k7
    simp only [Addr.add_mk, Nat.zero_add]
    rw [e1]
    refine ⟨_, M0.txt k, ?_⟩
    rw [txt_nil]
    refine bcase_intro (fun d => ?_) fun d => no (by rw [rp]; exact decide_eq_false fun q => of_decide_eq_false d q.1)
    have d : x.txt.size = 0 := of_decide_eq_true d
    unfold ref21_Part.k6
    simp only [Addr.add_mk, Nat.zero_add]
    rw [e1]
    refine ⟨_, M0.id k, _, Z1, intCells_guid k.id.1, iz, ?_⟩
    refine fin ?_
    rw [aggZ, rp, Bool.eq_iff_iff, decide_eq_true_iff, decide_eq_true_iff]
    exact ⟨fun q => ⟨d, q, hsn⟩, fun q => q.2.1⟩
  have c3 : x.kind ≠ 3 := by simpa using c3
  unfold ref21_Part.k10
  refine bcase_intro (fun c4 => ?_) fun c4 => no (by unfold rpart; rw [if_neg c1, if_neg c2, if_neg c3, if_neg (by simpa using c4)])
  have c4 : x.kind = 4 := by simpa using c4
  have rp : rpart x = decide (x.txt.size = 0 ∧ x.id = z16 ∧ x.H = 0 ∧ x.sn = 0) := by unfold rpart; rw [if_neg c1, if_neg c2, if_neg c3, if_pos c4]
  unfold ref21_Part.k9
  simp only [Addr.add_mk, Nat.zero_add]
  rw [e1]
  refine ⟨_, M0.txt k, ?_⟩
  rw [txt_nil]
  refine bcase_intro (fun d => ?_) fun d => no (by rw [rp]; exact decide_eq_false fun q => of_decide_eq_false d q.1)
  have d : x.txt.size = 0 := of_decide_eq_true d
  unfold ref21_Part.k8
  simp only [Addr.add_mk, Nat.zero_add]
  rw [e1]
  refine ⟨_, M0.id k, _, Z1, intCells_guid k.id.1, iz, ?_⟩
  rw [aggZ]
  refine bcase_intro (fun d2 => ?_) fun d2 => no (by rw [rp]; exact decide_eq_false fun q => of_decide_eq_false d2 q.2.1)
  have d2 : x.id = z16 := of_decide_eq_true d2
  exact k4' fun r q => by rw [rp]; exact tr q ⟨fun w => w.2.2.1, fun w => ⟨d, d2, w, hsn⟩⟩
end Go.Den.Mon
end

section
set_option linter.unusedVariables false
set_option maxRecDepth 100000
namespace Go.Den.Mon
open Go Go.Den
variable {h h' : Hp} {K : Value → Hp → Prop}
inductive Mon where
  | mk (kind : Int) (id : List Nat) (txt : List UInt8) (H : Nat) (l : List Mon)
def mcs (l : List Raw) : List Value := l.flatMap mc
theorem mcs_len {l : List Raw} (ok : ∀ x ∈ l, x.Ok) : (mcs l).length = l.length * 20 := by
  unfold mcs
  induction l with
  | nil => rfl
  | cons z l ih => rw [List.flatMap_cons, List.length_append, mc_len (ok z (by simp)), ih fun o ho => ok o (by simp [ho])]; simp [Nat.add_mul]; omega
theorem mcs_split {l : List Raw} {i : Nat} {o : Raw} (ho : l[i]? = some o) : mcs l = mcs (l.take i) ++ (mc o ++ mcs (l.drop (i + 1))) := by
  have e : l = l.take i ++ (o :: l.drop (i + 1)) := by
    have := List.getElem_of_getElem? ho
    rw [← this.2, ← List.drop_eq_getElem_cons, List.take_append_drop]
  unfold mcs
  conv => lhs; rw [e]
  rw [List.flatMap_append, List.flatMap_cons]
theorem src_step {v : Value} {n sz : Nat} {vs : List Value} (hs : SrcAt h sz v n vs) (s : Step [] h [] h') : SrcAt h' sz v n vs := by
  cases hs with
  | none => exact .none
  | @some p _ _ cs hc =>
    refine .some ⟨hc.1, fun j v hv => ?_⟩
    have h1 := hc.2 j v hv
    rw [← h1]
    refine cell_block rfl (s.keep _ (fun e => ?_) (by simp))
    unfold Hp.cell? at h1
    rw [e] at h1
    cases h1
theorem srcM {a : Option Addr} {n c : Nat} {l : List Raw} (hs : SrcAt h 20 (.slice a n c) n (mcs l)) (ok : ∀ o ∈ l, o.Ok) (hl : l.length = n) {i : Nat} {x : Raw} (hx : l[i]? = some x) :
    ∃ p, a = some p ∧ h p.block ≠ none ∧ ∀ (h' : Hp), h' p.block = h p.block → CellsAt h' (p.add (i * 20)) 20 (mc x).toArray := by
  have hi : i < n := by rw [← hl]; exact (List.getElem?_eq_some_iff.1 hx).1
  have kx : x.Ok := ok x (List.mem_of_getElem? hx)
  generalize hv : mcs l = vs at hs
  cases hs with
  | none => omega
  | @some p _ _ cs hc =>
    subst hv
    have hcell : ∀ j, j < 20 → h.cell? (p.add (i * 20 + j)) = (mc x)[j]? := fun j hj => by
      have hj' : j < (mc x).length := by rw [mc_len kx]; exact hj
      have e : (mcs l)[i * 20 + j]? = (mc x)[j]? := by
        rw [mcs_split hx]
        have lt : (mcs (l.take i)).length = i * 20 := by
          rw [mcs_len fun o ho => ok o (List.mem_of_mem_take ho), List.length_take]; congr 1; omega
        rw [List.getElem?_append_right (by omega), lt, show i * 20 + j - i * 20 = j by omega, List.getElem?_append_left hj']
      rw [List.getElem?_eq_getElem hj'] at e ⊢
      exact hc.2 _ _ (by rw [List.getElem?_toArray]; exact e)
    refine ⟨p, rfl, fun e => ?_, fun h' e => ⟨by simpa using mc_len kx, fun j v hv => ?_⟩⟩
    · have := hcell 0 (by omega)
      rw [List.getElem?_eq_getElem (by rw [mc_len kx]; omega)] at this
      unfold Hp.cell? at this
      rw [Addr.add_block, e] at this
      cases this
    · rw [List.getElem?_toArray] at hv
      have hj : j < 20 := by
        have := (List.getElem?_eq_some_iff.1 hv).1
        rw [mc_len kx] at this; exact this
      have ad : (p.add (i * 20)).add j = p.add (i * 20 + j) := by
        obtain ⟨b, o, s⟩ := p
        unfold Addr.add
        by_cases h1 : i * 20 = 0 <;> by_cases h2 : j = 0 <;> simp_all [Nat.add_assoc]
      rw [ad, ← cell_block (h := h) (Addr.add_block p _) (by rw [e]), hcell j hj]
      exact hv
inductive Deep (h : Hp) : Raw → Mon → Prop
  | mk {x : Raw} {rows : List Raw} {ms : List Mon} : x.Ok → x.sn < 9223372036854775808 → rows.length = x.sn → SrcAt h 20 (.slice x.sa x.sn x.sc) x.sn (mcs rows) → (∀ r ∈ rows, r.Ok) → ms.length = rows.length →
      (∀ (i : Nat) (r : Raw) (m : Mon), rows[i]? = some r → ms[i]? = some m → Deep h r m) → Deep h x (.mk x.kind x.id x.txt.data.toList x.H ms)
theorem Deep.step {x : Raw} {m : Mon} (d : Deep h x m) (s : Step [] h [] h') : Deep h' x m := by
  induction d with
  | mk k hb hl hs ok hm _ ih => exact .mk k hb hl (src_step hs s) ok hm ih
theorem Deep.ok {x : Raw} {m : Mon} (d : Deep h x m) : x.Ok := by cases d with | mk k _ _ _ _ _ _ => exact k
end Go.Den.Mon
end

section
set_option linter.unusedVariables false
set_option maxRecDepth 100000
namespace Go.Den.Mon
open Go Go.Den
variable {h : Hp} {K : Value → Hp → Prop}
theorem newM {x : Raw} (k : x.Ok) {h0 : Hp} {b : Nat} (hb : h0 b = none) : (h0.put b (.cells zMon T.api_Moniker (0, 0))).setCells ⟨b, 0, none⟩ (mc x).toArray = h0.put b (.cells (mc x).toArray T.api_Moniker (0, 0)) := by
  rw [setCells_blk (z := zMon) put_self (by simpa using (mc_len k).symm), put_put]
theorem freeM {h0 : Hp} {b : Nat} : Free (h0.put b (.cells zMon T.api_Moniker (0, 0))) ⟨b, 0, none⟩ 20 := free_blk put_self rfl
theorem gSame_spec {x : Raw} {m : Mon} (d : Deep h x m) : ∀ (h1 : Hp) (y : Raw) (m' : Mon) (K : Value → Hp → Prop), Step [] h [] h1 → Deep h1 y m' → (∀ (r : Bool) (h2 : Hp), (r = true ↔ m = m') → Step [] h1 [] h2 → K (.bool r) h2) →
    HC P moniker_Same.n #[.agg (mc x).toArray, .agg (mc y).toArray] h1 K := by
  induction d with
  | @mk x rows ms kx hsn hl hs ok hm hd ih =>
    intro h1 y m' K s1 dy hk
    cases dy with
    | @mk _ rows' ms' ky hsn' hl' hs' ok' hm' hd' =>
      refine moniker_Same.hc ?_
      unfold moniker_Same
      intro b0 hb0 b1 hb1
      obtain ⟨n10, hb1'⟩ := put_none hb1
      obtain ⟨H, hH⟩ : ∃ H, H = (h1.put b0 (.cells (mc x).toArray T.api_Moniker (0, 0))).put b1 (.cells (mc y).toArray T.api_Moniker (0, 0)) := ⟨_, rfl⟩
      have M0 : MB H b0 x := by rw [hH]; show _ = _; rw [put_ne (Ne.symm n10), put_self]
      have M1 : MB H b1 y := by rw [hH]; show _ = _; rw [put_self]
      have st : Step [] h1 [] H := by rw [hH]; exact (Step.put (.inr hb0)).trans (Step.put (.inr hb1))
      have no : ¬ (Mon.mk x.kind x.id x.txt.data.toList x.H ms = Mon.mk y.kind y.id y.txt.data.toList y.H ms') → moniker_Same.k0 K h1 b0 (mc x).toArray b1 (mc y).toArray := fun e => by
        unfold moniker_Same.k0
        rw [← hH]
        exact hk false H ⟨fun q => (by cases q), fun q => absurd q e⟩ st
      simp only [Addr.add_mk, Nat.zero_add]
      rw [← hH]
      refine ⟨_, M0.kind, _, M1.kind, bcase_intro (fun e => no fun q => ?_) fun e => ?_⟩
      · injection q with q1 q2 q3 q4 q5
        rw [q1] at e; simp at e
      have q1 : x.kind = y.kind := by simpa using e
      unfold moniker_Same.k8
      simp only [Addr.add_mk, Nat.zero_add]
      rw [← hH]
      refine ⟨_, M0.txt kx, _, M1.txt ky, ?_⟩
      rw [ByteArray.toList_eq, ByteArray.toList_eq]
      refine bcase_intro (fun e => no fun q => ?_) fun e => ?_
      · injection q with q1 q2 q3 q4 q5
        rw [q3] at e; simp at e
      have q3 : x.txt.data.toList = y.txt.data.toList := by simpa using e
      unfold moniker_Same.k7
      simp only [Addr.add_mk, Nat.zero_add]
      rw [← hH]
      refine ⟨_, M0.id kx, _, M1.id ky, intCells_guid kx.id.1, intCells_guid ky.id.1, ?_⟩
      rw [aggEq_gcs]
      refine bcase_intro (fun e => no fun q => ?_) fun e => ?_
      · injection q with q1 q2 q3 q4 q5
        rw [q2] at e; simp at e
      have q2 : x.id = y.id := by simpa using e
      unfold moniker_Same.k6
      simp only [Addr.add_mk, Nat.zero_add]
      rw [← hH]
      refine ⟨_, M0.H kx, _, M1.H ky, bcase_intro (fun e => no fun q => ?_) fun e => ?_⟩
      · injection q with q1 q2 q3 q4 q5
        rw [q4] at e; simp at e
      have q4 : x.H = y.H := by
        have : ((x.H : Nat) : Int) = ((y.H : Nat) : Int) := by simpa using e
        omega
      unfold moniker_Same.k5
      simp only [Addr.add_mk, Nat.zero_add]
      rw [← hH]
      refine ⟨_, _, _, M0.L kx, _, _, _, M1.L ky, bcase_intro (fun e => no fun q => ?_) fun e => ?_⟩
      · injection q with q1 q2 q3 q4 q5
        have : ms.length = ms'.length := by rw [q5]
        rw [show x.sn = y.sn by omega] at e; simp at e
      have q5 : x.sn = y.sn := by
        have : ((x.sn : Nat) : Int) = ((y.sn : Nat) : Int) := by simpa using e
        omega
      have heq : Mon.mk x.kind x.id x.txt.data.toList x.H ms = Mon.mk y.kind y.id y.txt.data.toList y.H ms' ↔ ms = ms' := by
        rw [q1, q2, q3, q4]
        exact ⟨fun q => by injection q, fun q => by rw [q]⟩
      unfold moniker_Same.k4
      simp only [Addr.add_mk, Nat.zero_add]
      rw [← hH]
      obtain ⟨I0, hI0⟩ : ∃ I0 : List Value → Hp → Prop, I0 = fun vs hh => ∃ (bb : Bool) (j : Nat), vs = [.bool bb, .int .i64 (j : Int)] ∧ j ≤ x.sn ∧ Step [] H [] hh ∧ ∀ i < j, ms[i]? = ms'[i]? := ⟨_, rfl⟩
      obtain ⟨x0, hx0⟩ : ∃ x0 : List Value → Hp → Nat, x0 = fun vs _ => match vs with | [_, .int _ i] => x.sn - i.toNat | _ => 0 := ⟨_, rfl⟩
      refine ⟨_, _, _, M0.L kx, I0, x0, by rw [hI0]; exact ⟨false, 0, rfl, by omega, Step.refl _ _, by omega⟩, ?_⟩
      intro hh bb n7 hin
      rw [hI0] at hin
      obtain ⟨bb', j, he, hj, sH, hall⟩ := hin
      cases he
      have S1 : Step [] h1 [] hh := st.trans sH
      refine bcase_intro (fun hc => ?_) fun hc => ?_
      · have hc : j < x.sn := by have := of_decide_eq_true hc; omega
        obtain ⟨r, hr⟩ : ∃ r, rows[j]? = some r := ⟨_, List.getElem?_eq_getElem (by omega)⟩
        obtain ⟨r', hr'⟩ : ∃ r', rows'[j]? = some r' := ⟨_, List.getElem?_eq_getElem (by omega)⟩
        obtain ⟨mj, hmj⟩ : ∃ mj, ms[j]? = some mj := ⟨_, List.getElem?_eq_getElem (by omega)⟩
        obtain ⟨mj', hmj'⟩ : ∃ mj', ms'[j]? = some mj' := ⟨_, List.getElem?_eq_getElem (by omega)⟩
        have kr := ok r (List.mem_of_getElem? hr)
        have kr' := ok' r' (List.mem_of_getElem? hr')
        obtain ⟨p, ep, hp, cp⟩ := srcM hs ok hl hr
        obtain ⟨p', ep', hp', cp'⟩ := srcM hs' ok' hl' hr'
        unfold moniker_Same.k3
        rw [ep, someD_some, Int.toNat_natCast]
        refine ⟨by omega, by omega, _, cp hh ((s1.trans S1).keep _ hp (by simp)), fun b3 hb3 => ?_⟩
        obtain ⟨X, hX⟩ : ∃ X, X = hh.put b3 (.cells (mc r).toArray T.api_Moniker (0, 0)) := ⟨_, rfl⟩
        have e3 := newM kr hb3
        rw [← hX] at e3
        have sX : Step [] hh [] X := by rw [hX]; exact Step.put (.inr hb3)
        simp only [Addr.add_mk, Nat.zero_add]
        rw [e3]
        have M3 : MB X b3 r := by rw [hX]; exact put_self
        refine ⟨by simpa using mc_len kr, mc_cellish, freeM, _, M3.all kr, _, _, _, (M1.step (sH.trans sX)).L ky, by omega, by omega, ?_⟩
        rw [ep', someD_some]
        refine ⟨_, cp' X ((S1.trans sX).keep _ hp' (by simp)), ?_⟩
        refine ih j r mj hr hmj X r' mj' _ (s1.trans (S1.trans sX)) ((hd' j r' mj' hr' hmj').step (S1.trans sX)) fun q h2 hq s2 => ⟨q, rfl, ?_⟩
        unfold moniker_Same.k2
        refine bcase_intro (fun eq => ?_) fun eq => ?_
        · refine hk false h2 ⟨fun q => (by cases q), fun q => ?_⟩ ((S1.trans sX).trans s2)
          have q := heq.1 q
          rw [q, hmj'] at hmj
          have hb := hq.2 (Option.some.inj hmj).symm
          rw [hb] at eq; cases eq
        · have hq1 : q = true := by simpa using eq
          have hmm := hq.1 hq1
          unfold moniker_Same.k1
          rw [wrapN (m := j + 1) (by simp) (by omega)]
          refine ⟨?_, ?_⟩
          · rw [hI0]
            refine ⟨bb, j + 1, rfl, by omega, (sH.trans sX).trans s2, fun i hi => ?_⟩
            by_cases e : i = j
            · subst e; rw [hmj, hmj', hmm]
            · exact hall i (by omega)
          · rw [hx0]
            show x.sn - ((j + 1 : Nat) : Int).toNat < x.sn - (j : Int).toNat
            omega
      · have hc : j = x.sn := by have := of_decide_eq_false hc; omega
        refine hk true hh ⟨fun _ => heq.2 ?_, fun _ => rfl⟩ S1
        apply List.ext_getElem?
        intro i
        by_cases hi : i < j
        · exact hall i hi
        · rw [List.getElem?_eq_none (by omega), List.getElem?_eq_none (by omega)]
theorem rSame_spec {x : Raw} {m : Mon} (d : Deep h x m) : ∀ (h1 : Hp) (y : Raw) (m' : Mon) (K : Value → Hp → Prop), Step [] h [] h1 → Deep h1 y m' → (∀ (r : Bool) (h2 : Hp), (r = true ↔ m = m') → Step [] h1 [] h2 → K (.bool r) h2) →
    HC P ref21_Same.n #[.agg (mc x).toArray, .agg (mc y).toArray] h1 K := by
  induction d with
  | @mk x rows ms kx hsn hl hs ok hm hd ih =>
    intro h1 y m' K s1 dy hk
    cases dy with
    | @mk _ rows' ms' ky hsn' hl' hs' ok' hm' hd' =>
      refine ref21_Same.hc ?_
      unfold ref21_Same
      intro b0 hb0 b1 hb1
      obtain ⟨n10, hb1'⟩ := put_none hb1
      obtain ⟨H, hH⟩ : ∃ H, H = (h1.put b0 (.cells (mc x).toArray T.api_Moniker (0, 0))).put b1 (.cells (mc y).toArray T.api_Moniker (0, 0)) := ⟨_, rfl⟩
      have M0 : MB H b0 x := by rw [hH]; show _ = _; rw [put_ne (Ne.symm n10), put_self]
      have M1 : MB H b1 y := by rw [hH]; show _ = _; rw [put_self]
      have st : Step [] h1 [] H := by rw [hH]; exact (Step.put (.inr hb0)).trans (Step.put (.inr hb1))
      have no : ¬ (Mon.mk x.kind x.id x.txt.data.toList x.H ms = Mon.mk y.kind y.id y.txt.data.toList y.H ms') → ref21_Same.k0 K h1 b0 (mc x).toArray b1 (mc y).toArray := fun e => by
        unfold ref21_Same.k0
        rw [← hH]
        exact hk false H ⟨fun q => (by cases q), fun q => absurd q e⟩ st
      simp only [Addr.add_mk, Nat.zero_add]
      rw [← hH]
      refine ⟨_, M0.kind, _, M1.kind, bcase_intro (fun e => no fun q => ?_) fun e => ?_⟩
      · injection q with q1 q2 q3 q4 q5
        rw [q1] at e; simp at e
      have q1 : x.kind = y.kind := by simpa using e
      unfold ref21_Same.k8
      simp only [Addr.add_mk, Nat.zero_add]
      rw [← hH]
      refine ⟨_, M0.txt kx, _, M1.txt ky, ?_⟩
      rw [ByteArray.toList_eq, ByteArray.toList_eq]
      refine bcase_intro (fun e => no fun q => ?_) fun e => ?_
      · injection q with q1 q2 q3 q4 q5
        rw [q3] at e; simp at e
      have q3 : x.txt.data.toList = y.txt.data.toList := by simpa using e
      unfold ref21_Same.k7
      simp only [Addr.add_mk, Nat.zero_add]
      rw [← hH]
      refine ⟨_, M0.id kx, _, M1.id ky, intCells_guid kx.id.1, intCells_guid ky.id.1, ?_⟩
      rw [aggEq_gcs]
      refine bcase_intro (fun e => no fun q => ?_) fun e => ?_
      · injection q with q1 q2 q3 q4 q5
        rw [q2] at e; simp at e
      have q2 : x.id = y.id := by simpa using e
      unfold ref21_Same.k6
      simp only [Addr.add_mk, Nat.zero_add]
      rw [← hH]
      refine ⟨_, M0.H kx, _, M1.H ky, bcase_intro (fun e => no fun q => ?_) fun e => ?_⟩
      · injection q with q1 q2 q3 q4 q5
        rw [q4] at e; simp at e
      have q4 : x.H = y.H := by
        have : ((x.H : Nat) : Int) = ((y.H : Nat) : Int) := by simpa using e
        omega
      unfold ref21_Same.k5
      simp only [Addr.add_mk, Nat.zero_add]
      rw [← hH]
      refine ⟨_, _, _, M0.L kx, _, _, _, M1.L ky, bcase_intro (fun e => no fun q => ?_) fun e => ?_⟩
      · injection q with q1 q2 q3 q4 q5
        have : ms.length = ms'.length := by rw [q5]
        rw [show x.sn = y.sn by omega] at e; simp at e
      have q5 : x.sn = y.sn := by
        have : ((x.sn : Nat) : Int) = ((y.sn : Nat) : Int) := by simpa using e
        omega
      have heq : Mon.mk x.kind x.id x.txt.data.toList x.H ms = Mon.mk y.kind y.id y.txt.data.toList y.H ms' ↔ ms = ms' := by
        rw [q1, q2, q3, q4]
        exact ⟨fun q => by injection q, fun q => by rw [q]⟩
      unfold ref21_Same.k4
      simp only [Addr.add_mk, Nat.zero_add]
      rw [← hH]
      obtain ⟨I0, hI0⟩ : ∃ I0 : List Value → Hp → Prop, I0 = fun vs hh => ∃ (bb : Bool) (j : Nat), vs = [.bool bb, .int .i64 (j : Int)] ∧ j ≤ x.sn ∧ Step [] H [] hh ∧ ∀ i < j, ms[i]? = ms'[i]? := ⟨_, rfl⟩
      obtain ⟨x0, hx0⟩ : ∃ x0 : List Value → Hp → Nat, x0 = fun vs _ => match vs with | [_, .int _ i] => x.sn - i.toNat | _ => 0 := ⟨_, rfl⟩
      refine ⟨I0, x0, by rw [hI0]; exact ⟨false, 0, rfl, by omega, Step.refl _ _, by omega⟩, ?_⟩
      intro hh bb n7 hin
      rw [hI0] at hin
      obtain ⟨bb', j, he, hj, sH, hall⟩ := hin
      cases he
      have S1 : Step [] h1 [] hh := st.trans sH
      refine ⟨_, _, _, (M0.step sH).L kx, bcase_intro (fun hc => ?_) fun hc => ?_⟩
      · have hc : j < x.sn := by have := of_decide_eq_true hc; omega
        obtain ⟨r, hr⟩ : ∃ r, rows[j]? = some r := ⟨_, List.getElem?_eq_getElem (by omega)⟩
        obtain ⟨r', hr'⟩ : ∃ r', rows'[j]? = some r' := ⟨_, List.getElem?_eq_getElem (by omega)⟩
        obtain ⟨mj, hmj⟩ : ∃ mj, ms[j]? = some mj := ⟨_, List.getElem?_eq_getElem (by omega)⟩
        obtain ⟨mj', hmj'⟩ : ∃ mj', ms'[j]? = some mj' := ⟨_, List.getElem?_eq_getElem (by omega)⟩
        have kr := ok r (List.mem_of_getElem? hr)
        have kr' := ok' r' (List.mem_of_getElem? hr')
        obtain ⟨p, ep, hp, cp⟩ := srcM hs ok hl hr
        obtain ⟨p', ep', hp', cp'⟩ := srcM hs' ok' hl' hr'
        unfold ref21_Same.k3
        simp only [Addr.add_mk, Nat.zero_add]
        refine ⟨_, _, _, (M0.step sH).L kx, by omega, by omega, ?_⟩
        rw [ep, someD_some, Int.toNat_natCast]
        refine ⟨_, cp hh ((s1.trans S1).keep _ hp (by simp)), _, _, _, (M1.step sH).L ky, by omega, by omega, ?_⟩
        rw [ep', someD_some]
        refine ⟨_, cp' hh (S1.keep _ hp' (by simp)), ?_⟩
        refine ih j r mj hr hmj hh r' mj' _ (s1.trans S1) ((hd' j r' mj' hr' hmj').step S1) fun q h2 hq s2 => ⟨q, rfl, ?_⟩
        unfold ref21_Same.k2
        refine bcase_intro (fun eq => ?_) fun eq => ?_
        · refine hk false h2 ⟨fun q => (by cases q), fun q => ?_⟩ (S1.trans s2)
          have q := heq.1 q
          rw [q, hmj'] at hmj
          have hb := hq.2 (Option.some.inj hmj).symm
          rw [hb] at eq; cases eq
        · have hq1 : q = true := by simpa using eq
          have hmm := hq.1 hq1
          unfold ref21_Same.k1
          rw [wrapN (m := j + 1) (by simp) (by omega)]
          refine ⟨?_, ?_⟩
          · rw [hI0]
            refine ⟨bb, j + 1, rfl, by omega, sH.trans s2, fun i hi => ?_⟩
            by_cases e : i = j
            · subst e; rw [hmj, hmj', hmm]
            · exact hall i (by omega)
          · rw [hx0]
            show x.sn - ((j + 1 : Nat) : Int).toNat < x.sn - (j : Int).toNat
            omega
      · have hc : j = x.sn := by have := of_decide_eq_false hc; omega
        refine hk true hh ⟨fun _ => heq.2 ?_, fun _ => rfl⟩ S1
        apply List.ext_getElem?
        intro i
        by_cases hi : i < j
        · exact hall i hi
        · rw [List.getElem?_eq_none (by omega), List.getElem?_eq_none (by omega)]
end Go.Den.Mon
end

section
set_option linter.unusedVariables false
set_option maxRecDepth 100000
namespace Go.Den.Mon
open Go Go.Den
variable {h : Hp} {K : Value → Hp → Prop}
theorem right1_spec {x : Raw} (k : x.Ok) (hk : ∀ h', Step [] h [] h' → K (.bool (!rpart x)) h') : HC P moniker_right_1.n #[.agg (mc x).toArray] h K := by
  refine moniker_right_1.hc ?_
  unfold moniker_right_1
  intro b0 hb0
  have M : MB (h.put b0 (.cells (mc x).toArray T.api_Moniker (0, 0))) b0 x := put_self
  exact ⟨_, M.all k, part_spec k fun h' s => ⟨_, rfl, hk h' ((Step.put (.inr hb0)).trans s)⟩⟩
theorem call_right1 : callable P moniker_right_1.n = true := by kernel_rfl
theorem contains_spec {a : Option Addr} {n c : Nat} {rows : List Raw} (hs : SrcAt h 20 (.slice a n c) n (mcs rows)) (ok : ∀ r ∈ rows, r.Ok) (hl : rows.length = n) (hn : n < 9223372036854775807) (hk : ∀ h', Step [] h [] h' → K (.bool (rows.any fun r => !rpart r)) h') :
    HC P slices_ContainsFunc_api_Moniker_api_Moniker.n #[.slice a n c, .func (.func moniker_right_1.n) #[] #[]] h K := by
  refine slices_ContainsFunc_api_Moniker_api_Moniker.hc ?_
  unfold slices_ContainsFunc_api_Moniker_api_Moniker
  refine slices_IndexFunc_api_Moniker_api_Moniker.hc ?_
  unfold slices_IndexFunc_api_Moniker_api_Moniker
  obtain ⟨I0, hI0⟩ : ∃ I0 : List Value → Hp → Prop, I0 = fun vs hh => ∃ (z : Int) (j : Nat), vs = [.int .i64 z, .int .i64 (j : Int)] ∧ j ≤ n ∧ Step [] h [] hh ∧ ∀ i r, i < j → rows[i]? = some r → rpart r = true := ⟨_, rfl⟩
  obtain ⟨x0, hx0⟩ : ∃ x0 : List Value → Hp → Nat, x0 = fun vs _ => match vs with | [_, .int _ i] => n - i.toNat | _ => 0 := ⟨_, rfl⟩
  refine ⟨I0, x0, by rw [hI0]; exact ⟨0, 0, rfl, by omega, Step.refl _ _, by omega⟩, ?_⟩
  intro hh z n1 hin
  rw [hI0] at hin
  obtain ⟨z', j, he, hj, sH, hall⟩ := hin
  cases he
  refine bcase_intro (fun hc => ?_) fun hc => ?_
  · have hc : j < n := by have := of_decide_eq_true hc; omega
    obtain ⟨r, hr⟩ : ∃ r, rows[j]? = some r := ⟨_, List.getElem?_eq_getElem (by omega)⟩
    have kr := ok r (List.mem_of_getElem? hr)
    obtain ⟨p, ep, hp, cp⟩ := srcM hs ok hl hr
    unfold slices_IndexFunc_api_Moniker_api_Moniker.k2
    rw [ep, someD_some, Int.toNat_natCast]
    refine ⟨by omega, by omega, _, cp hh (sH.keep _ hp (by simp)), trueD_intro call_right1 (right1_spec kr fun h2 s2 => ⟨_, rfl, ?_⟩)⟩
    unfold slices_IndexFunc_api_Moniker_api_Moniker.k1
    refine bcase_intro (fun e => ?_) fun e => ?_
    · have : (rows.any fun r => !rpart r) = true := List.any_eq_true.2 ⟨r, List.mem_of_getElem? hr, e⟩
      have h3 := hk h2 (sH.trans s2)
      rw [this] at h3
      exact ⟨_, rfl, by rw [decide_eq_true (by omega)]; exact h3⟩
    · unfold slices_IndexFunc_api_Moniker_api_Moniker.k0
      rw [wrapN (m := j + 1) (by simp) (by omega)]
      refine ⟨?_, ?_⟩
      · rw [hI0]
        refine ⟨z, j + 1, rfl, by omega, sH.trans s2, fun i r' hi hr' => ?_⟩
        by_cases e' : i = j
        · subst e'; rw [hr] at hr'; cases hr'; simpa using e
        · exact hall i r' (by omega) hr'
      · rw [hx0]
        show n - ((j + 1 : Nat) : Int).toNat < n - (j : Int).toNat
        omega
  · have hc : j = n := by have := of_decide_eq_false hc; omega
    have : (rows.any fun r => !rpart r) = false := by
      rw [List.any_eq_false]
      intro r hr
      obtain ⟨i, hi⟩ := List.mem_iff_getElem?.1 hr
      have := hall i r (by have := (List.getElem?_eq_some_iff.1 hi).1; omega) hi
      simp [this]
    have h3 := hk hh sH
    rw [this] at h3
    exact ⟨_, rfl, by rw [decide_eq_false (by omega)]; exact h3⟩
def rright (x : Raw) (rows : List Raw) : Bool :=
  if x.kind = 0 then decide (x.txt.size = 0 ∧ x.id = z16 ∧ x.H = 0 ∧ x.sn = 0)
  else if x.kind = 5 then decide (x.txt.size = 0 ∧ x.id = z16 ∧ x.H = 0 ∧ 2 ≤ x.sn ∧ x.sn ≤ 64) && rows.all rpart
  else rpart x
structure Top (h : Hp) (x : Raw) (rows : List Raw) (m : Mon) : Prop where
  deep : Deep h x m
  src : SrcAt h 20 (.slice x.sa x.sn x.sc) x.sn (mcs rows)
  ok : ∀ r ∈ rows, r.Ok
  len : rows.length = x.sn
theorem Top.step {h' : Hp} {x : Raw} {rows : List Raw} {m : Mon} (t : Top h x rows m) (s : Step [] h [] h') : Top h' x rows m := ⟨t.deep.step s, src_step t.src s, t.ok, t.len⟩
theorem Top.blk {x : Raw} {rows : List Raw} {m : Mon} (t : Top h x rows m) (p : Addr) (e : x.sa = some p) (h0 : x.sn ≠ 0) : h p.block ≠ none := by
  obtain ⟨r, hr⟩ : ∃ r, rows[0]? = some r := ⟨_, List.getElem?_eq_getElem (by have := t.len; omega)⟩
  obtain ⟨q, eq, hq, -⟩ := srcM t.src t.ok t.len hr
  rw [e] at eq; cases eq; exact hq
theorem nl_ok : nl.Ok := ⟨z16_is, by decide, by decide, by decide⟩
theorem nl_deep : Deep h nl (.mk 0 z16 [] 0 []) := .mk (x := nl) (rows := []) nl_ok (by decide) rfl .none (by simp) rfl (by simp)
theorem right_spec {x : Raw} {rows : List Raw} {m : Mon} (t : Top h x rows m) (hk : ∀ h', Step [] h [] h' → K (.bool (rright x rows)) h') : HC P moniker_right.n #[.agg (mc x).toArray] h K := by
  have k := t.deep.ok
  refine moniker_right.hc ?_
  unfold moniker_right
  intro b0 hb0
  obtain ⟨H, hH⟩ : ∃ H, H = h.put b0 (.cells (mc x).toArray T.api_Moniker (0, 0)) := ⟨_, rfl⟩
  have M : MB H b0 x := by rw [hH]; exact put_self
  have st : Step [] h [] H := by rw [hH]; exact Step.put (.inr hb0)
  simp only [Addr.add_mk, Nat.zero_add]
  rw [← hH]
  have fin : ∀ {r : Bool} {h2 : Hp}, r = rright x rows → Step [] H [] h2 → K (.bool r) h2 := fun e s => by rw [e]; exact hk _ (st.trans s)
  refine ⟨_, M.kind, bcase_intro (fun c0 => ?_) fun c0 => ?_⟩
  · have c0 : x.kind = 0 := by simpa using c0
    unfold moniker_right.k0
    rw [← hH]
    refine ⟨_, M.all k, trivial, ?_⟩
    refine gSame_spec t.deep H nl _ _ st nl_deep fun r h2 hr s2 => ⟨r, rfl, fin ?_ s2⟩
    unfold rright
    rw [if_pos c0, Bool.eq_iff_iff, hr, decide_eq_true_iff]
    cases t.deep with
    | mk kx hsn hl hs ok hm hd =>
      have ez : x.txt.data.toList = [] ↔ x.txt.size = 0 := by rw [Lib.size_eq]; exact List.length_eq_zero_iff.symm
      constructor
      · intro q
        injection q with q1 q2 q3 q4 q5
        subst q5
        exact ⟨ez.1 q3, q2, q4, by simpa using (hm.trans hl).symm⟩
      · rintro ⟨q3, q2, q4, q5⟩
        rename_i ms
        have : ms = [] := List.length_eq_zero_iff.1 (by omega)
        rw [c0, q2, ez.2 q3, q4, this]
  have c0 : x.kind ≠ 0 := by simpa using c0
  unfold moniker_right.k8
  simp only [Addr.add_mk, Nat.zero_add]
  rw [← hH]
  refine ⟨_, M.kind, bcase_intro (fun c5 => ?_) fun c5 => ?_⟩
  · have c5 : x.kind ≠ 5 := by simpa using c5
    unfold moniker_right.k1
    rw [← hH]
    exact ⟨_, M.all k, part_spec k fun h2 s2 => ⟨_, rfl, fin (by unfold rright; rw [if_neg c0, if_neg c5]) s2⟩⟩
  have c5 : x.kind = 5 := by simpa using c5
  have rr : rright x rows = (decide (x.txt.size = 0 ∧ x.id = z16 ∧ x.H = 0 ∧ 2 ≤ x.sn ∧ x.sn ≤ 64) && rows.all rpart) := by unfold rright; rw [if_neg c0, if_pos c5]
  have no : ¬ (x.txt.size = 0 ∧ x.id = z16 ∧ x.H = 0 ∧ 2 ≤ x.sn ∧ x.sn ≤ 64) → K (.bool false) H := fun q => fin (by rw [rr, decide_eq_false q]; rfl) (Step.refl _ _)
  unfold moniker_right.k7
  simp only [Addr.add_mk, Nat.zero_add]
  rw [← hH]
  refine ⟨_, M.txt k, ?_⟩
  rw [txt_nil]
  refine bcase_intro (fun d => no fun q => by simp [q.1] at d) fun d1 => ?_
  have d1 : x.txt.size = 0 := by simpa using d1
  unfold moniker_right.k6
  simp only [Addr.add_mk, Nat.zero_add]
  rw [← hH]
  refine ⟨_, M.id k, trivial, intCells_guid k.id.1, intCells_guid z16_is.1, ?_⟩
  rw [aggZ]
  refine bcase_intro (fun d => no fun q => by simp [q.2.1] at d) fun d2 => ?_
  have d2 : x.id = z16 := by simpa using d2
  unfold moniker_right.k5
  simp only [Addr.add_mk, Nat.zero_add]
  rw [← hH]
  refine ⟨_, M.H k, bcase_intro (fun d => no fun q => by simp [q.2.2.1] at d) fun d3 => ?_⟩
  have d3 : x.H = 0 := by
    have : ((x.H : Nat) : Int) = 0 := by simpa using d3
    omega
  unfold moniker_right.k4
  simp only [Addr.add_mk, Nat.zero_add]
  rw [← hH]
  refine ⟨_, _, _, M.L k, bcase_intro (fun d => no fun q => by have := of_decide_eq_true d; omega) fun d4 => ?_⟩
  have d4 := of_decide_eq_false d4
  unfold moniker_right.k3
  simp only [Addr.add_mk, Nat.zero_add]
  rw [← hH]
  refine ⟨_, _, _, M.L k, bcase_intro (fun d => no fun q => by have := of_decide_eq_true d; omega) fun d5 => ?_⟩
  have d5 := of_decide_eq_false d5
  unfold moniker_right.k2
  simp only [Addr.add_mk, Nat.zero_add]
  rw [← hH]
  refine ⟨_, _, _, M.L k, contains_spec (src_step t.src st) t.ok t.len (by omega) fun h2 s2 => ⟨_, rfl, fin ?_ s2⟩⟩
  rw [rr, decide_eq_true ⟨d1, d2, d3, by omega, by omega⟩, Bool.true_and]
  rw [Bool.eq_iff_iff]
  simp [List.all_eq_true]
theorem Check_spec {x : Raw} {rows : List Raw} {m : Mon} (t : Top h x rows m) (hk : ∀ h', Step [] h [] h' → K (.int .i64 (if rright x rows then 0 else 5)) h') : HC P moniker_Check.n #[.agg (mc x).toArray] h K := by
  refine moniker_Check.hc ?_
  unfold moniker_Check
  intro b0 hb0
  have M : MB (h.put b0 (.cells (mc x).toArray T.api_Moniker (0, 0))) b0 x := put_self
  have st : Step [] h [] (h.put b0 (.cells (mc x).toArray T.api_Moniker (0, 0))) := Step.put (.inr hb0)
  refine ⟨_, M.all t.deep.ok, right_spec (t.step st) fun h' s => ⟨_, rfl, ?_⟩⟩
  have h2 := hk h' (st.trans s)
  refine bcase_intro (fun e => ?_) fun e => ?_
  · rw [if_neg (by simpa using e)] at h2; exact h2
  · rw [if_pos (by simpa using e)] at h2; exact h2
end Go.Den.Mon
end

section
set_option linter.unusedVariables false
set_option maxRecDepth 100000
namespace Go.Den.Mon
open Go Go.Den
variable {h : Hp} {K : Value → Hp → Prop}
theorem rRight_spec {x : Raw} {rows : List Raw} {m : Mon} (t : Top h x rows m) (hk : ∀ h', Step [] h [] h' → K (.bool (rright x rows)) h') : HC P ref21_Right.n #[.agg (mc x).toArray] h K := by
  have k := t.deep.ok
  refine ref21_Right.hc ?_
  unfold ref21_Right
  intro b0 hb0
  obtain ⟨H, hH⟩ : ∃ H, H = h.put b0 (.cells (mc x).toArray T.api_Moniker (0, 0)) := ⟨_, rfl⟩
  have M : MB H b0 x := by rw [hH]; exact put_self
  have st : Step [] h [] H := by rw [hH]; exact Step.put (.inr hb0)
  have fin : ∀ {r : Bool} {h2 : Hp}, r = rright x rows → Step [] H [] h2 → K (.bool r) h2 := fun e s => by rw [e]; exact hk _ (st.trans s)
  have k9' : x.kind ≠ 0 → x.kind ≠ 5 → ref21_Right.k9 h b0 (mc x).toArray K := fun c0 c5 => by
    unfold ref21_Right.k9
    rw [← hH]
    exact ⟨_, M.all k, rPart_spec k fun h2 s2 => ⟨_, rfl, fin (by unfold rright; rw [if_neg c0, if_neg c5]) s2⟩⟩
  have k13' : ¬ (x.txt.size = 0 ∧ x.id = z16) → ref21_Right.k13 h b0 (mc x).toArray K := fun hno => by
    unfold ref21_Right.k13
    simp only [Addr.add_mk, Nat.zero_add]
    rw [← hH]
    refine ⟨_, M.kind, bcase_intro (fun c0 => ?_) fun c0 => ?_⟩
    · refine fin ?_ (Step.refl _ _)
      unfold rright
      rw [if_pos (by simpa using c0), decide_eq_false fun q => hno ⟨q.1, q.2.1⟩]
    · have c0 : x.kind ≠ 0 := by simpa using c0
      unfold ref21_Right.k12
      refine bcase_intro (fun c5 => ?_) fun c5 => k9' c0 (by simpa using c5)
      rw [← hH]
      refine fin ?_ (Step.refl _ _)
      unfold rright
      rw [if_neg c0, if_pos (by simpa using c5), decide_eq_false fun q => hno ⟨q.1, q.2.1⟩]; rfl
  simp only [Addr.add_mk, Nat.zero_add]
  rw [← hH]
  refine ⟨_, M.txt k, ?_⟩
  rw [txt_nil]
  refine bcase_intro (fun d1 => ?_) fun d1 => k13' fun q => of_decide_eq_false d1 q.1
  have d1 : x.txt.size = 0 := of_decide_eq_true d1
  unfold ref21_Right.k14
  simp only [Addr.add_mk, Nat.zero_add]
  rw [← hH]
  refine ⟨_, M.id k, trivial, intCells_guid k.id.1, intCells_guid z16_is.1, ?_⟩
  rw [aggZ]
  refine bcase_intro (fun d2 => ?_) fun d2 => k13' fun q => of_decide_eq_false d2 q.2
  have d2 : x.id = z16 := of_decide_eq_true d2
  unfold ref21_Right.k11
  simp only [Addr.add_mk, Nat.zero_add]
  rw [← hH]
  refine ⟨_, M.H k, _, M.kind, bcase_intro (fun c0 => ?_) fun c0 => ?_⟩
  · have c0 : x.kind = 0 := by simpa using c0
    have rr : rright x rows = decide (x.txt.size = 0 ∧ x.id = z16 ∧ x.H = 0 ∧ x.sn = 0) := by unfold rright; rw [if_pos c0]
    unfold ref21_Right.k1
    refine bcase_intro (fun d3 => ?_) fun d3 => ?_
    · have d3 : x.H = 0 := by
        have : ((x.H : Nat) : Int) = 0 := by simpa using d3
        omega
      unfold ref21_Right.k0
      simp only [Addr.add_mk, Nat.zero_add]
      rw [← hH]
      refine ⟨_, _, _, M.L k, fin ?_ (Step.refl _ _)⟩
      rw [rr, Bool.eq_iff_iff, beq_iff_eq, decide_eq_true_iff]
      exact ⟨fun q => ⟨d1, d2, d3, by omega⟩, fun q => by have := q.2.2.2; omega⟩
    · rw [← hH]
      exact fin (by rw [rr, decide_eq_false fun q => by rw [q.2.2.1] at d3; simp at d3]) (Step.refl _ _)
  have c0 : x.kind ≠ 0 := by simpa using c0
  unfold ref21_Right.k10
  refine bcase_intro (fun c5 => ?_) fun c5 => k9' c0 (by simpa using c5)
  have c5 : x.kind = 5 := by simpa using c5
  have rr : rright x rows = (decide (x.txt.size = 0 ∧ x.id = z16 ∧ x.H = 0 ∧ 2 ≤ x.sn ∧ x.sn ≤ 64) && rows.all rpart) := by unfold rright; rw [if_neg c0, if_pos c5]
  have no : ¬ (x.txt.size = 0 ∧ x.id = z16 ∧ x.H = 0 ∧ 2 ≤ x.sn ∧ x.sn ≤ 64) → K (.bool false) H := fun q => fin (by rw [rr, decide_eq_false q]; rfl) (Step.refl _ _)
  unfold ref21_Right.k8
  rw [← hH]
  refine bcase_intro (fun d => no fun q => by rw [q.2.2.1] at d; simp at d) fun d3 => ?_
  have d3 : x.H = 0 := by
    have : ((x.H : Nat) : Int) = 0 := by simpa using d3
    omega
  unfold ref21_Right.k7
  simp only [Addr.add_mk, Nat.zero_add]
  rw [← hH]
  refine ⟨_, _, _, M.L k, bcase_intro (fun d => no fun q => by have := of_decide_eq_true d; omega) fun d4 => ?_⟩
  have d4 := of_decide_eq_false d4
  unfold ref21_Right.k6
  simp only [Addr.add_mk, Nat.zero_add]
  rw [← hH]
  refine ⟨_, _, _, M.L k, bcase_intro (fun d => no fun q => by have := of_decide_eq_true d; omega) fun d5 => ?_⟩
  have d5 := of_decide_eq_false d5
  have rr : rright x rows = rows.all rpart := by rw [rr, decide_eq_true ⟨d1, d2, d3, by omega, by omega⟩]; rfl
  unfold ref21_Right.k5
  rw [← hH]
  obtain ⟨I0, hI0⟩ : ∃ I0 : List Value → Hp → Prop, I0 = fun vs hh => ∃ (bb : Bool) (j : Nat), vs = [.bool bb, .int .i64 (j : Int)] ∧ j ≤ x.sn ∧ Step [] H [] hh ∧ ∀ i r, i < j → rows[i]? = some r → rpart r = true := ⟨_, rfl⟩
  obtain ⟨x0, hx0⟩ : ∃ x0 : List Value → Hp → Nat, x0 = fun vs _ => match vs with | [_, .int _ i] => x.sn - i.toNat | _ => 0 := ⟨_, rfl⟩
  refine ⟨I0, x0, by rw [hI0]; exact ⟨false, 0, rfl, by omega, Step.refl _ _, by omega⟩, ?_⟩
  intro hh bb n5 hin
  rw [hI0] at hin
  obtain ⟨bb', j, he, hj, sH, hall⟩ := hin
  cases he
  have hlen := t.len
  simp only [Addr.add_mk, Nat.zero_add]
  refine ⟨_, _, _, (M.step sH).L k, bcase_intro (fun hc => ?_) fun hc => ?_⟩
  · have hc : j < x.sn := by have := of_decide_eq_true hc; omega
    obtain ⟨r, hr⟩ : ∃ r, rows[j]? = some r := ⟨_, List.getElem?_eq_getElem (by omega)⟩
    have kr := t.ok r (List.mem_of_getElem? hr)
    obtain ⟨p, ep, hp, cp⟩ := srcM t.src t.ok t.len hr
    unfold ref21_Right.k4
    simp only [Addr.add_mk, Nat.zero_add]
    refine ⟨_, _, _, (M.step sH).L k, by omega, by omega, ?_⟩
    rw [ep, someD_some, Int.toNat_natCast]
    refine ⟨_, cp hh ((st.trans sH).keep _ hp (by simp)), rPart_spec kr fun h2 s2 => ⟨_, rfl, ?_⟩⟩
    unfold ref21_Right.k3
    refine bcase_intro (fun e => ?_) fun e => ?_
    · refine fin ?_ (sH.trans s2)
      rw [rr]
      refine (List.all_eq_false.2 ⟨r, List.mem_of_getElem? hr, ?_⟩).symm
      simpa using e
    · unfold ref21_Right.k2
      rw [wrapN (m := j + 1) (by simp) (by omega)]
      refine ⟨?_, ?_⟩
      · rw [hI0]
        refine ⟨bb, j + 1, rfl, by omega, sH.trans s2, fun i r' hi hr' => ?_⟩
        by_cases e' : i = j
        · subst e'; rw [hr] at hr'; cases hr'; simpa using e
        · exact hall i r' (by omega) hr'
      · rw [hx0]
        show x.sn - ((j + 1 : Nat) : Int).toNat < x.sn - (j : Int).toNat
        omega
  · have hc : j = x.sn := by have := of_decide_eq_false hc; omega
    refine fin ?_ sH
    rw [rr]
    refine (List.all_eq_true.2 fun r hr => ?_).symm
    obtain ⟨i, hi⟩ := List.mem_iff_getElem?.1 hr
    exact hall i r (by have := (List.getElem?_eq_some_iff.1 hi).1; omega) hi
end Go.Den.Mon
end

section
set_option linter.unusedVariables false
set_option maxRecDepth 100000
namespace Go.Den.Mon
open Go Go.Den
variable {h : Hp} {K : Value → Hp → Prop}
def li (a : Option Addr) (n c : Nat) : Raw := ⟨5, z16, ⟨#[]⟩, 0, a, n, c⟩
theorem li_ok {a : Option Addr} {n c : Nat} : (li a n c).Ok := ⟨z16_is, by show (0 : Nat) < _; omega, by show _ ≤ (5 : Int) ∧ (5 : Int) < _; omega, by show (0 : Nat) ≤ _; omega⟩
theorem retM {y : Raw} {b0 : Nat} {C : Value → Hp → Prop} (k : y.Ok) (hb : h b0 = none) (hk : C (.agg (mc y).toArray) (h.put b0 (.cells (mc y).toArray T.api_Moniker (0, 0)))) :
    Free (h.put b0 (.cells zMon T.api_Moniker (0, 0))) ⟨b0, 0, none⟩ 20 ∧ ∃ cs : Array Value, CellsAt ((h.put b0 (.cells zMon T.api_Moniker (0, 0))).setCells ⟨b0, 0, none⟩ (mc y).toArray) ⟨b0, 0, none⟩ 20 cs ∧ C (.agg cs) ((h.put b0 (.cells zMon T.api_Moniker (0, 0))).setCells ⟨b0, 0, none⟩ (mc y).toArray) := by
  rw [newM k hb]
  exact ⟨freeM, _, cellsAt_blk put_self (by simpa using mc_len k), hk⟩
theorem nz {n : Nat} (e : (((n : Nat) : Int) == 0) = true) : n = 0 := by
  have : ((n : Nat) : Int) = 0 := by simpa using e
  omega
section
variable {a : Option Addr} {n c : Nat} {rows : List Raw}
theorem gOf_spec (hs : SrcAt h 20 (.slice a n c) n (mcs rows)) (ok : ∀ r ∈ rows, r.Ok) (hl : rows.length = n)
    (h0 : n = 0 → ∀ h', Step [] h [] h' → K (.tuple #[.agg (mc nl).toArray, .int .i64 0]) h')
    (h1 : ∀ r, rows = [r] → ∀ h', Step [] h [] h' → K (.tuple #[.agg (mc r).toArray, .int .i64 0]) h')
    (h2 : 64 < n → ∀ h', Step [] h [] h' → K (.tuple #[.agg (mc nl).toArray, .int .i64 20]) h')
    (h3 : 2 ≤ n → n ≤ 64 → ∀ h', Step [] h [] h' → K (.tuple #[.agg (mc (li a n c)).toArray, .int .i64 0]) h') : HC P moniker_of.n #[.slice a n c] h K := by
  refine moniker_of.hc ?_
  unfold moniker_of
  intro b0 hb0
  have st : ∀ {y : Raw}, Step [] h [] (h.put b0 (.cells (mc y).toArray T.api_Moniker (0, 0))) := Step.put (.inr hb0)
  refine bcase_intro (fun e => ?_) fun e => ?_
  · unfold moniker_of.k0
    exact ⟨trivial, rfl, by simp [cellish], retM (y := nl) (C := fun v hh => K (.tuple #[v, .int .i64 0]) hh) nl_ok hb0 (h0 (nz e) _ st)⟩
  have n0 : n ≠ 0 := fun q => by rw [q] at e; simp at e
  unfold moniker_of.k5
  refine bcase_intro (fun e => ?_) fun e => ?_
  · have n1 : n = 1 := by
      have : ((n : Nat) : Int) = 1 := by simpa using e
      omega
    obtain ⟨r, hr⟩ : ∃ r, rows = [r] := by
      match rows, hl with
      | [r], _ => exact ⟨r, rfl⟩
      | [], q => simp at q; omega
      | _ :: _ :: _, q => simp at q; omega
    have kr := ok r (by rw [hr]; simp)
    obtain ⟨p, ep, hp, cp⟩ := srcM hs ok hl (i := 0) (x := r) (by rw [hr]; rfl)
    unfold moniker_of.k1
    rw [ep, someD_some]
    refine ⟨by omega, by omega, _, cp _ (put_ne fun q => hp (by rw [q]; exact hb0)), by simpa using mc_len kr, mc_cellish, ?_⟩
    exact retM (y := r) (C := fun v hh => K (.tuple #[v, .int .i64 0]) hh) kr hb0 (h1 r hr _ st)
  have n1 : n ≠ 1 := fun q => by rw [q] at e; simp at e
  unfold moniker_of.k4
  refine bcase_intro (fun e => ?_) fun e => ?_
  · unfold moniker_of.k2
    exact ⟨trivial, rfl, by simp [cellish], retM (y := nl) (C := fun v hh => K (.tuple #[v, .int .i64 20]) hh) nl_ok hb0 (h2 (by have := of_decide_eq_true e; omega) _ st)⟩
  · unfold moniker_of.k3
    exact ⟨trivial, rfl, by simp [cellish], retM (y := li a n c) (C := fun v hh => K (.tuple #[v, .int .i64 0]) hh) li_ok hb0 (h3 (by omega) (by have := of_decide_eq_false e; omega) _ st)⟩
theorem rOf_spec (hs : SrcAt h 20 (.slice a n c) n (mcs rows)) (ok : ∀ r ∈ rows, r.Ok) (hl : rows.length = n)
    (h0 : n = 0 → ∀ h', Step [] h [] h' → K (.tuple #[.agg (mc nl).toArray, .bool true]) h')
    (h1 : ∀ r, rows = [r] → ∀ h', Step [] h [] h' → K (.tuple #[.agg (mc r).toArray, .bool true]) h')
    (h2 : 64 < n → ∀ h', Step [] h [] h' → K (.tuple #[.agg (mc nl).toArray, .bool false]) h')
    (h3 : 2 ≤ n → n ≤ 64 → ∀ h', Step [] h [] h' → K (.tuple #[.agg (mc (li a n c)).toArray, .bool true]) h') : HC P ref21_Of.n #[.slice a n c] h K := by
  refine ref21_Of.hc ?_
  unfold ref21_Of
  intro b0 hb0
  have st : ∀ {y : Raw}, Step [] h [] (h.put b0 (.cells (mc y).toArray T.api_Moniker (0, 0))) := Step.put (.inr hb0)
  refine bcase_intro (fun e => ?_) fun e64 => ?_
  · unfold ref21_Of.k0
    exact ⟨trivial, rfl, by simp [cellish], retM (y := nl) (C := fun v hh => K (.tuple #[v, .bool false]) hh) nl_ok hb0 (h2 (by have := of_decide_eq_true e; omega) _ st)⟩
  have n64 : n ≤ 64 := by have := of_decide_eq_false e64; omega
  unfold ref21_Of.k5
  refine bcase_intro (fun e => ?_) fun e => ?_
  · unfold ref21_Of.k1
    exact ⟨trivial, rfl, by simp [cellish], retM (y := nl) (C := fun v hh => K (.tuple #[v, .bool true]) hh) nl_ok hb0 (h0 (nz e) _ st)⟩
  have n0 : n ≠ 0 := fun q => by rw [q] at e; simp at e
  unfold ref21_Of.k4
  refine bcase_intro (fun e => ?_) fun e => ?_
  · have n1 : n = 1 := by
      have : ((n : Nat) : Int) = 1 := by simpa using e
      omega
    obtain ⟨r, hr⟩ : ∃ r, rows = [r] := by
      match rows, hl with
      | [r], _ => exact ⟨r, rfl⟩
      | [], q => simp at q; omega
      | _ :: _ :: _, q => simp at q; omega
    have kr := ok r (by rw [hr]; simp)
    obtain ⟨p, ep, hp, cp⟩ := srcM hs ok hl (i := 0) (x := r) (by rw [hr]; rfl)
    unfold ref21_Of.k2
    rw [ep, someD_some]
    refine ⟨by omega, by omega, _, cp _ (put_ne fun q => hp (by rw [q]; exact hb0)), by simpa using mc_len kr, mc_cellish, ?_⟩
    exact retM (y := r) (C := fun v hh => K (.tuple #[v, .bool true]) hh) kr hb0 (h1 r hr _ st)
  have n1 : n ≠ 1 := fun q => by rw [q] at e; simp at e
  unfold ref21_Of.k3
  exact ⟨trivial, rfl, by simp [cellish], retM (y := li a n c) (C := fun v hh => K (.tuple #[v, .bool true]) hh) li_ok hb0 (h3 (by omega) n64 _ st)⟩
end
def partsOf (x : Raw) (rows : List Raw) : List Raw := if x.kind = 0 then [] else if x.kind = 5 then rows else [x]
theorem rParts_spec {x : Raw} {rows : List Raw} {m : Mon} (t : Top h x rows m) (hk : ∀ a n c h', n = (partsOf x rows).length → SrcAt h' 20 (.slice a n c) n (mcs (partsOf x rows)) → Step [] h [] h' → K (.slice a n c) h') : HC P ref21_Parts.n #[.agg (mc x).toArray] h K := by
  have k := t.deep.ok
  refine ref21_Parts.hc ?_
  unfold ref21_Parts
  intro b0 hb0
  obtain ⟨H, hH⟩ : ∃ H, H = h.put b0 (.cells (mc x).toArray T.api_Moniker (0, 0)) := ⟨_, rfl⟩
  have M : MB H b0 x := by rw [hH]; exact put_self
  have st : Step [] h [] H := by rw [hH]; exact Step.put (.inr hb0)
  simp only [Addr.add_mk, Nat.zero_add]
  rw [← hH]
  refine ⟨_, M.kind, bcase_intro (fun c0 => ?_) fun c0 => ?_⟩
  · have e : partsOf x rows = [] := by unfold partsOf; rw [if_pos (by simpa using c0)]
    unfold ref21_Parts.k0
    rw [← hH]
    exact hk none 0 0 H (by rw [e]; rfl) (by rw [e]; exact .none) st
  have c0 : x.kind ≠ 0 := by simpa using c0
  unfold ref21_Parts.k3
  refine bcase_intro (fun c5 => ?_) fun c5 => ?_
  · have e : partsOf x rows = rows := by unfold partsOf; rw [if_neg c0, if_pos (by simpa using c5)]
    unfold ref21_Parts.k1
    simp only [Addr.add_mk, Nat.zero_add]
    rw [← hH]
    exact ⟨_, _, _, M.L k, hk _ _ _ H (by rw [e, t.len]) (by rw [e]; exact src_step t.src st) st⟩
  · have e : partsOf x rows = [x] := by unfold partsOf; rw [if_neg c0, if_neg (by simpa using c5)]
    unfold ref21_Parts.k2
    rw [← hH]
    refine ⟨_, M.all k, ⟨by simpa using mc_len k, mc_cellish, trivial⟩, fun b1 hb1 => ?_⟩
    have eC : (Array.mk (catA (mc x).toArray [])) = (mc x).toArray := by unfold catA; simp
    rw [eC]
    refine hk _ 1 1 _ (by rw [e]; rfl) ?_ (st.trans (Step.put (.inr hb1)))
    rw [e]
    refine .some ⟨by simpa [mcs] using mc_len k, fun j v hv => ?_⟩
    rw [Addr.add_mk, cell_of put_self, Nat.zero_add]
    simpa [mcs] using hv
end Go.Den.Mon
end

section
set_option linter.unusedVariables false
set_option maxRecDepth 100000
namespace Go.Den.Mon
open Go Go.Den
variable {h : Hp} {K : Value → Hp → Prop}
def prt (x : Raw) (rows : List Raw) : List Raw := if rright x rows then partsOf x rows else []
theorem partsIt_spec {l0 bF : Nat} {x : Raw} {rows : List Raw} {m : Mon} (t : Top h x rows m) (M : MB h bF x) (Inv : Nat → Hp → Prop) (Stop : Hp → Prop) (i0 : Inv 0 h)
    (stab : ∀ i hh hh', Inv i hh → Step [] hh [] hh' → Inv i hh') (old : ∀ i hh, Inv i hh → hh bF = h bF ∧ ∀ p, x.sa = some p → x.sn ≠ 0 → h p.block ≠ none → hh p.block = h p.block)
    (hy : ∀ i r hh (C : Value → Hp → Prop), (prt x rows)[i]? = some r → Inv i hh → (∀ h2, Inv (i + 1) h2 → C (.bool true) h2) → (∀ h2, Stop h2 → C (.bool false) h2) → HY P l0 #[.agg (mc r).toArray] hh C)
    (hend : ∀ hh, Inv (prt x rows).length hh → K (.tuple #[]) hh) (hstop : ∀ hh, Stop hh → K (.tuple #[]) hh) :
    HC P moniker_Parts_1.n #[.func (.yield l0) #[] #[], .pointer (some ⟨bF, 0, none⟩)] h K := by
  have k := t.deep.ok
  refine moniker_Parts_1.hc ?_
  unfold moniker_Parts_1
  rw [someD_some]
  refine ⟨_, M.all k, right_spec t fun h0 s0 => ⟨_, rfl, ?_⟩⟩
  have j0 : Inv 0 h0 := stab 0 h h0 i0 s0
  have M0 := M.step s0
  unfold moniker_Parts_1.k7
  refine bcase_intro (fun e => ?_) fun e => ?_
  · have hz : prt x rows = [] := by unfold prt; rw [if_neg (by simpa using e)]
    exact hend h0 (by rw [hz]; exact j0)
  have hp : prt x rows = partsOf x rows := by unfold prt; rw [if_pos (by simpa using e)]
  unfold moniker_Parts_1.k6
  simp only [someD_some, Addr.add_mk, Nat.zero_add]
  refine ⟨_, M0.kind, bcase_intro (fun c0 => ?_) fun c0 => ?_⟩
  · have hz : prt x rows = [] := by rw [hp]; unfold partsOf; rw [if_pos (by simpa using c0)]
    exact hend h0 (by rw [hz]; exact j0)
  have c0 : x.kind ≠ 0 := by simpa using c0
  unfold moniker_Parts_1.k5
  simp only [someD_some, Addr.add_mk, Nat.zero_add]
  refine ⟨_, M0.kind, bcase_intro (fun c5 => ?_) fun c5 => ?_⟩
  · have hz : prt x rows = rows := by rw [hp]; unfold partsOf; rw [if_neg c0, if_pos (by simpa using c5)]
    have hsn : x.sn < 9223372036854775808 := by cases t.deep with | mk _ hb _ _ _ _ _ => exact hb
    unfold moniker_Parts_1.k3
    simp only [someD_some, Addr.add_mk, Nat.zero_add]
    obtain ⟨I0, hI0⟩ : ∃ I0 : List Value → Hp → Prop, I0 = fun vs hh => ∃ (j : Nat), vs = [.int .i64 (j : Int)] ∧ j ≤ x.sn ∧ Inv j hh := ⟨_, rfl⟩
    obtain ⟨x0, hx0⟩ : ∃ x0 : List Value → Hp → Nat, x0 = fun vs _ => match vs with | [.int _ i] => x.sn - i.toNat | _ => 0 := ⟨_, rfl⟩
    refine ⟨_, _, _, M0.L k, I0, x0, by rw [hI0]; exact ⟨0, rfl, by omega, j0⟩, ?_⟩
    intro hh n3 hin
    rw [hI0] at hin
    obtain ⟨j, he, hj, iv⟩ := hin
    have en : n3 = (j : Int) := by cases he; rfl
    clear he
    subst en
    have hlen := t.len
    refine bcase_intro (fun hc => ?_) fun hc => ?_
    · have hc : j < x.sn := by have := of_decide_eq_true hc; omega
      obtain ⟨r, hr⟩ : ∃ r, rows[j]? = some r := ⟨_, List.getElem?_eq_getElem (by omega)⟩
      have kr := t.ok r (List.mem_of_getElem? hr)
      obtain ⟨p, ep, hpb, cp⟩ := srcM t.src t.ok t.len hr
      unfold moniker_Parts_1.k2
      rw [ep, someD_some, Int.toNat_natCast]
      refine ⟨by omega, by omega, _, cp hh ((old j hh iv).2 p ep (by omega) hpb), fun b1 hb1 => ?_⟩
      have e3 := newM kr hb1
      rw [e3]
      have sX : Step [] hh [] (hh.put b1 (.cells (mc r).toArray T.api_Moniker (0, 0))) := Step.put (.inr hb1)
      refine ⟨by simpa using mc_len kr, mc_cellish, freeM, _, cellsAt_blk put_self (by simpa using mc_len kr), ?_⟩
      refine hy j r _ _ (by rw [hz]; exact hr) (stab j hh _ iv sX) (fun h2 i2 => ⟨true, rfl, ?_⟩) fun h2 s2 => ⟨false, rfl, ?_⟩
      · unfold moniker_Parts_1.k1
        refine bcF rfl ?_
        unfold moniker_Parts_1.k0
        rw [wrapN (m := j + 1) (by simp) (by omega)]
        refine ⟨by rw [hI0]; exact ⟨j + 1, rfl, by omega, i2⟩, ?_⟩
        rw [hx0]
        show x.sn - ((j + 1 : Nat) : Int).toNat < x.sn - (j : Int).toNat
        omega
      · unfold moniker_Parts_1.k1
        exact bcT rfl (hstop h2 s2)
    · have hc : j = x.sn := by have := of_decide_eq_false hc; omega
      exact hend hh (by rw [hz, t.len, ← hc]; exact iv)
  · have hz : prt x rows = [x] := by rw [hp]; unfold partsOf; rw [if_neg c0, if_neg (by simpa using c5)]
    unfold moniker_Parts_1.k4
    rw [someD_some]
    refine ⟨_, M0.all k, ?_⟩
    refine hy 0 x h0 _ (by rw [hz]; rfl) j0 (fun h2 i2 => ⟨true, rfl, hend h2 (by rw [hz]; exact i2)⟩) fun h2 s2 => ⟨false, rfl, hstop h2 s2⟩
end Go.Den.Mon
end

section
set_option linter.unusedVariables false
set_option maxRecDepth 100000
namespace Go.Den.Mon
open Go Go.Den
variable {h : Hp} {K : Value → Hp → Prop}
theorem slMon : SliceTy P T.sl_api_Moniker T.api_Moniker 20 := sliceTy_of (by kernel_rfl)
def red1 (out : List Raw) (x : Raw) : List Raw :=
  match out.getLast? with
  | some y => if x.kind = 4 ∧ y.kind ≠ 4 then out.dropLast else out ++ [x]
  | none => out ++ [x]
def red (out l : List Raw) : List Raw := l.foldl red1 out
structure Out (hh : Hp) (b0 : Nat) (out : List Raw) (o : List Nat) : Prop where
  row : ∃ a c, hh b0 = some (.cells #[.slice a out.length c] T.sl_api_Moniker (0, 0)) ∧ SlAt hh T.api_Moniker 20 AnyV a out.length c (mcs out) o
  off : b0 ∉ o
  ok : ∀ r ∈ out, r.Ok
theorem Out.keep {hh h' : Hp} {b0 : Nat} {out : List Raw} {o : List Nat} (w : Out hh b0 out o) (hk : ∀ k, k = b0 ∨ k ∈ o → h' k = hh k) : Out h' b0 out o := by
  obtain ⟨⟨a, c, e, s⟩, f, k⟩ := w
  exact ⟨⟨a, c, by rw [hk b0 (.inl rfl)]; exact e, s.keep fun q hq => hk q (.inr hq)⟩, f, k⟩
theorem mcs_snoc {l : List Raw} {x : Raw} : mcs (l ++ [x]) = mcs l ++ mc x := by simp [mcs]
theorem Out.pop {hh : Hp} {b0 : Nat} {out : List Raw} {y : Raw} {o : List Nat} {a : Option Addr} {c : Nat} (w : Out hh b0 (out ++ [y]) o) (e : hh b0 = some (.cells #[.slice a (out.length + 1) c] T.sl_api_Moniker (0, 0))) :
    Out (hh.setCell ⟨b0, 0, none⟩ (.slice (offA a c 0 20) out.length c)) b0 out o := by
  obtain ⟨⟨a', c', e', s⟩, f, k⟩ := w
  rw [List.length_append, List.length_cons, List.length_nil] at e' s
  have q : a' = a ∧ c' = c := by rw [e] at e'; cases e'; exact ⟨rfl, rfl⟩
  obtain ⟨rfl, rfl⟩ := q
  refine ⟨⟨_, _, by rw [setCell_blk e]; rfl, ?_⟩, f, fun r hr => k r (by simp [hr])⟩
  have ky := k y (by simp)
  generalize hv : mcs (out ++ [y]) = vs at s
  generalize hn : out.length + 0 + 1 = n at s
  have s' := s
  cases s' with
  | none => omega
  | @some b off len cap pre vs rest post hb hp h1 h2 h3 h4 =>
    have eo : offA (some ⟨b, off, none⟩) c' 0 20 = some ⟨b, off, none⟩ := by
      unfold offA
      split <;> simp
    rw [eo]
    have hne : b ≠ b0 := fun q => f (by simp [q])
    have lo : (mcs out).length = out.length * 20 := mcs_len fun r hr => k r (by simp [hr])
    refine .some (pre := pre) (vs := mcs out) (rest := mc y ++ rest) (post := post) ?_ hp lo ?_ (by omega) (fun _ _ => trivial)
    · rw [setCell_ne hne, hb, ← hv, mcs_snoc]; simp [List.append_assoc]
    · rw [List.length_append, mc_len ky, h2, show c' - out.length = (c' - n) + 1 by omega, Nat.add_mul]; omega
end Go.Den.Mon
end

section
set_option linter.unusedVariables false
set_option maxRecDepth 100000
namespace Go.Den.Mon
open Go Go.Den
variable {h : Hp} {K : Value → Hp → Prop}
theorem setLast {hh : Hp} {a : Option Addr} {len cap n : Nat} {vs y x : List Value} {o : List Nat} (s : SlAt hh T.api_Moniker 20 AnyV a len cap (vs ++ y) o) (hy : y.length = 20) (hx : x.length = 20) (hv : vs.length = n * 20) :
    ∃ b off ob, a = some ⟨b, off, none⟩ ∧ o = [b] ∧ Free hh ⟨b, off + n * 20, none⟩ 20 ∧ hh b ≠ none ∧ (∀ h2 : Hp, h2 b = hh b → h2.setCells ⟨b, off + n * 20, none⟩ x.toArray = h2.put b ob ∧ SlAt (h2.put b ob) T.api_Moniker 20 AnyV a len cap (vs ++ x) o ∧ Free h2 ⟨b, off + n * 20, none⟩ 20) := by
  generalize hw : vs ++ y = ws at s
  cases s with
  | none =>
    have : (vs ++ y).length = 0 := by rw [hw]; rfl
    rw [List.length_append] at this
    omega
  | @some b off _ _ pre _ rest post hb hp h1 h2' h3 h4 =>
    subst hw
    have fr : ∀ h2 : Hp, h2 b = hh b → Free h2 ⟨b, off + n * 20, none⟩ 20 := fun h2 e j hj => by
      have hb2 : h2 b = some (.cells (pre ++ (vs ++ y ++ (rest ++ post))).toArray T.api_Moniker (0, 0)) := by rw [e]; exact hb
      rw [Addr.add_mk]
      refine ⟨?_, frozen_of hb2⟩
      rw [cell_of hb2]
      exact ⟨_, Array.getElem?_eq_getElem (by simp; omega)⟩
    refine ⟨b, off, .cells (pre ++ (vs ++ x ++ (rest ++ post))).toArray T.api_Moniker (0, 0), rfl, rfl, fr hh rfl, by rw [hb]; simp, fun h2 e => ⟨?_, ?_, fr h2 e⟩⟩
    · have hb2 : h2 b = some (.cells ((pre ++ vs) ++ (y ++ (rest ++ post))).toArray T.api_Moniker (0, 0)) := by rw [e, hb]; simp [List.append_assoc]
      unfold Hp.setCells
      rw [List.toList_toArray, setCellsFrom_split (b := b) (off := off + n * 20) x y (pre ++ vs) (rest ++ post) 0 h2 hb2 (by rw [List.length_append, hp, hv]; omega) (by rw [hx, hy])]
      simp [List.append_assoc]
    · refine .some (pre := pre) (rest := rest) (post := post) (by rw [put_self]) hp ?_ ?_ h3 fun _ _ => trivial
      · rw [List.length_append] at h1 ⊢; omega
      · exact h2'
end Go.Den.Mon
end

section
set_option linter.unusedVariables false
set_option maxRecDepth 100000
namespace Go.Den.Mon
open Go Go.Den
variable {h : Hp} {K : Value → Hp → Prop}
theorem redPush {h2 : Hp} {b0 b2 l0 : Nat} {x : Raw} {out : List Raw} {o : List Nat} {R0 : Rec} {K0 : Value → Hp → Prop} (k : x.Ok) (w : Out h2 b0 out o) (hl : h2 l0 = some R0.ready) (nl0 : l0 ∉ o) (nlb : l0 ≠ b0) (hb2 : h2 b2 = none) (hn : out.length < 1000000)
    (hk : ∀ o' h', Out h' b0 (out ++ [x]) o' → h' l0 = some R0.ready → l0 ∉ o' → Step (o ++ [b0, l0]) h2 (o' ++ [b0, l0]) h' → K0 (.bool true) h') : moniker_reduce.k2 h2 b2 (mc x).toArray l0 R0 b0 K0 := by
  obtain ⟨⟨a, c, e, s⟩, f, ko⟩ := w
  have n20 : b2 ≠ l0 := fun q => by rw [q, hl] at hb2; cases hb2
  have n2b : b2 ≠ b0 := fun q => by rw [q, e] at hb2; cases hb2
  have n2o : ∀ q ∈ o, q ≠ b2 := fun q hq z => s.mem q hq (by rw [z]; exact hb2)
  obtain ⟨X, hX⟩ : ∃ X, X = (h2.put b2 (.cells (mc x).toArray T.api_Moniker (0, 0))).put l0 R0.busy := ⟨_, rfl⟩
  have e2 := newM k hb2
  have Xl : X l0 = some R0.busy := by rw [hX, put_self]
  have Xb : X b0 = some (.cells #[.slice a out.length c] T.sl_api_Moniker (0, 0)) := by rw [hX, put_ne (Ne.symm nlb), put_ne (Ne.symm n2b)]; exact e
  have X2 : MB X b2 x := by rw [hX]; show _ = _; rw [put_ne n20, put_self]
  have Xs : SlAt X T.api_Moniker 20 AnyV a out.length c (mcs out) o := s.keep fun q hq => by rw [hX, put_ne fun z => nl0 (by rw [← z]; exact hq), put_ne (n2o q hq)]
  have SX : Step (o ++ [b0, l0]) h2 (o ++ [b0, l0]) X := by rw [hX]; exact (Step.put (.inr hb2)).trans (Step.put (.inl (by simp)))
  unfold moniker_reduce.k2
  rw [e2, ← hX]
  refine ⟨a, out.length, c, by rw [cell_of Xb]; rfl, _, X2.all k, ⟨rfl, by simp [cellish], trivial⟩, fun b3 hb3 => ?_⟩
  have n3o : ∀ q ∈ o, q ≠ b3 := fun q hq z => Xs.mem q hq (by rw [z]; exact hb3)
  have eC : (Array.mk (catA zMon [])) = (mc nl).toArray := rfl
  rw [eC]
  refine append_wp (P := P) (Z := AnyV) (cs := mc nl) (n := 1) slMon slMon.1 (Xs.keep fun q hq => put_ne (n3o q hq)) (fun _ _ _ _ _ _ => trivial) (.some ⟨by simpa using mc_len nl_ok, fun j v hv => by rw [Addr.add_mk, cell_of put_self, Nat.zero_add]; exact hv⟩) (fun v hv => mc_cellish v (by simpa using hv)) (by omega) fun a5 c5 o5 h3 s5 _ S5 => ⟨_, _, _, rfl, ?_⟩
  have S3 : Step o X o5 h3 := (Step.put (.inr hb3)).trans S5
  have dl : ∀ q, X q ≠ none → q ∉ o → q ∉ o5 := fun q hq hno hm => by
    rcases S3.own q hm with z | z
    · exact hno z
    · exact hq z
  have f5 : b0 ∉ o5 := dl b0 (by rw [Xb]; simp) f
  have l5 : l0 ∉ o5 := dl l0 (by rw [Xl]; simp) nl0
  have Hb : h3 b0 = some (.cells #[.slice a out.length c] T.sl_api_Moniker (0, 0)) := S3.block Xb f
  have Hl : h3 l0 = some R0.busy := S3.block Xl nl0
  obtain ⟨b, off, ob, ea, eo, fr, hnn, hset⟩ := setLast (n := out.length) s5 (mc_len nl_ok) (mc_len k) (mcs_len ko)
  have nb0 : b ≠ b0 := fun z => f5 (by rw [eo, z]; simp)
  have nbl : b ≠ l0 := fun z => l5 (by rw [eo, z]; simp)
  have okx : ∀ r ∈ out ++ [x], r.Ok := fun r hr => by
    rcases List.mem_append.1 hr with z | z
    · exact ko r z
    · simp at z; rw [z]; exact k
  have hlen : (out ++ [x]).length = out.length + 1 := by simp
  have fin : ∀ h4 : Hp, h4 b0 = some (.cells #[.slice a5 (out.length + 1) c5] T.sl_api_Moniker (0, 0)) → SlAt h4 T.api_Moniker 20 AnyV a5 (out.length + 1) c5 (mcs out ++ mc x) o5 → Step (o5 ++ [b0, l0]) h3 (o5 ++ [b0, l0]) h4 → K0 (.bool true) (h4.put l0 R0.ready) := fun h4 q1 q2 q3 => by
    refine hk o5 _ ⟨⟨a5, c5, ?_, ?_⟩, f5, okx⟩ put_self l5 ?_
    · rw [put_ne (Ne.symm nlb), hlen]; exact q1
    · rw [hlen, mcs_snoc]
      exact q2.keep fun q hq => put_ne fun z => l5 (by rw [← z]; exact hq)
    · exact ((SX.trans (S3.frame [b0, l0])).trans q3).trans (Step.put (.inl (by simp)))
  unfold moniker_reduce.k1
  rw [ea, someD_some, Int.toNat_natCast, Addr.add_mk]
  refine ⟨by omega, by omega, ⟨by simpa using mc_len k, mc_cellish, fr, ?_⟩, ?_⟩
  · obtain ⟨g1, g2, -⟩ := hset h3 rfl
    rw [g1]
    have Gb : (h3.put b ob) b0 = some (.cells #[.slice a out.length c] T.sl_api_Moniker (0, 0)) := by rw [put_ne (Ne.symm nb0)]; exact Hb
    refine ⟨⟨_, by rw [cell_of Gb]; rfl⟩, frozen_of Gb, by rw [setCell_ne nlb, put_ne (Ne.symm nbl)]; exact Hl, ?_⟩
    rw [← ea]
    refine fin _ (by rw [setCell_blk Gb]; rfl) (g2.keep fun q hq => setCell_ne fun z => f5 (by rw [← z]; exact hq)) ?_
    exact (Step.put (.inl (by rw [eo]; simp))).trans (Step.setCell Gb (by simp))
  · have Gb := Hb
    obtain ⟨g1, g2, g3⟩ := hset (h3.setCell ⟨b0, 0, none⟩ (.slice (some ⟨b, off, none⟩) (out.length + 1) c5)) (setCell_ne nb0)
    rw [g1]
    refine ⟨⟨_, by rw [cell_of Gb]; rfl⟩, frozen_of Gb, by simpa using mc_len k, mc_cellish, g3, by rw [put_ne (Ne.symm nbl), setCell_ne nlb]; exact Hl, ?_⟩
    refine fin _ (by rw [put_ne (Ne.symm nb0), setCell_blk Gb, ea]; rfl) g2 ?_
    exact (Step.setCell Gb (by simp)).trans (Step.put (.inl (by rw [eo]; simp)))
end Go.Den.Mon
end

section
set_option linter.unusedVariables false
set_option maxRecDepth 100000
namespace Go.Den.Mon
open Go Go.Den
variable {h : Hp} {K : Value → Hp → Prop}
theorem redBody {h2 : Hp} {b0 l0 : Nat} {x : Raw} {out : List Raw} {o : List Nat} {R0 : Rec} {K0 : Value → Hp → Prop} (k : x.Ok) (w : Out h2 b0 out o) (hl : h2 l0 = some R0.ready) (nl0 : l0 ∉ o) (nlb : l0 ≠ b0) (hn : out.length < 1000000)
    (hk : ∀ o' h', Out h' b0 (red1 out x) o' → h' l0 = some R0.ready → l0 ∉ o' → Step (o ++ [b0, l0]) h2 (o' ++ [b0, l0]) h' → K0 (.bool true) h') :
    ∀ b2 : Nat, h2 b2 = none → ((mc x).toArray.size = 20) ∧ (∀ v2 : Value, (v2 ∈ (Array.toList (mc x).toArray : List Value) → (Den.cellish v2) = Bool.true)) ∧ (Free (h2.put b2 (.cells zMon T.api_Moniker (0, 0))) ⟨b2, 0, none⟩ 20) ∧ ((((h2.put b2 (.cells zMon T.api_Moniker (0, 0))).setCells ⟨b2, 0, none⟩ (mc x).toArray) l0) = (some R0.ready)) ∧
      (∃ a1 : Option Addr, (∃ n1 : Nat, (∃ c0 : Nat, (((((h2.put b2 (.cells zMon T.api_Moniker (0, 0))).setCells ⟨b2, 0, none⟩ (mc x).toArray).put l0 R0.busy).cell? ⟨b0, 0, none⟩) = (some (.slice a1 n1 c0))) ∧ (∃ n2 : Int, (((((h2.put b2 (.cells zMon T.api_Moniker (0, 0))).setCells ⟨b2, 0, none⟩ (mc x).toArray).put l0 R0.busy).cell? ((⟨b2, 0, none⟩ : Addr).add 0)) = (some (.int .i64 n2))) ∧ bcase ((n2 == 4))
        ((moniker_reduce.k4 n1 h2 b2 (mc x).toArray l0 R0 b0 K0))
        ((moniker_reduce.k2 h2 b2 (mc x).toArray l0 R0 b0 K0)))))) := by
  intro b2 hb2
  have n20 : b2 ≠ l0 := fun q => by rw [q, hl] at hb2; cases hb2
  obtain ⟨⟨a, c, e, s⟩, f, ko⟩ := id w
  have n2b : b2 ≠ b0 := fun q => by rw [q, e] at hb2; cases hb2
  have n2o : ∀ q ∈ o, q ≠ b2 := fun q hq z => s.mem q hq (by rw [z]; exact hb2)
  obtain ⟨X, hX⟩ : ∃ X, X = (h2.put b2 (.cells (mc x).toArray T.api_Moniker (0, 0))).put l0 R0.busy := ⟨_, rfl⟩
  have e2 := newM k hb2
  have Xl : X l0 = some R0.busy := by rw [hX, put_self]
  have Xb : X b0 = some (.cells #[.slice a out.length c] T.sl_api_Moniker (0, 0)) := by rw [hX, put_ne (Ne.symm nlb), put_ne (Ne.symm n2b)]; exact e
  have X2 : MB X b2 x := by rw [hX]; show _ = _; rw [put_ne n20, put_self]
  have keepX : ∀ q, q = b0 ∨ q ∈ o → X q = h2 q := fun q hq => by
    rcases hq with rfl | hq
    · rw [Xb, e]
    · rw [hX, put_ne fun z => nl0 (by rw [← z]; exact hq), put_ne (n2o q hq)]
  have Xw : Out X b0 out o := w.keep keepX
  have SX : Step (o ++ [b0, l0]) h2 (o ++ [b0, l0]) X := by rw [hX]; exact (Step.put (.inr hb2)).trans (Step.put (.inl (by simp)))
  have push : red1 out x = out ++ [x] → moniker_reduce.k2 h2 b2 (mc x).toArray l0 R0 b0 K0 := fun q => redPush k w hl nl0 nlb hb2 hn fun o' h' g1 => hk o' h' (by rw [q]; exact g1)
  rw [e2, ← hX]
  refine ⟨by simpa using mc_len k, mc_cellish, freeM, by rw [put_ne (Ne.symm n20)]; exact hl, a, out.length, c, by rw [cell_of Xb]; rfl, x.kind, by rw [Addr.add_mk]; exact X2.kind, bcase_intro (fun c4 => ?_) fun c4 => push ?_⟩
  · have c4 : x.kind = 4 := by simpa using c4
    unfold moniker_reduce.k4
    refine bcase_intro (fun hp => ?_) fun hp => push ?_
    · have hp : 0 < out.length := by have := of_decide_eq_true hp; omega
      obtain ⟨out', y, rfl⟩ : ∃ out' y, out = out' ++ [y] := ⟨out.dropLast, out.getLast (List.ne_nil_of_length_pos hp), (List.dropLast_concat_getLast _).symm⟩
      have hln : (out' ++ [y]).length = out'.length + 1 := by simp
      have ky := ko y (by simp)
      have hw : IntKind.wrap .i64 (((out' ++ [y]).length : Nat) - 1 : Int) = (out'.length : Nat) := wrapN (by rw [hln]; omega) (by rw [hln] at hn; omega)
      have Xs : SlAt X T.api_Moniker 20 AnyV a (out' ++ [y]).length c (mcs (out' ++ [y])) o := s.keep fun q hq => keepX q (.inr hq)
      obtain ⟨p, rfl, hpb, cp⟩ := srcM Xs.src ko rfl (i := out'.length) (x := y) (by simp)
      have cy := (cp X rfl).2 0 (.int .i64 y.kind) (by simp [mc])
      unfold moniker_reduce.k3
      rw [e2, ← hX, hw]
      refine ⟨_, _, _, by rw [cell_of Xb]; rfl, by omega, by rw [hln]; omega, ?_⟩
      rw [someD_some, Int.toNat_natCast]
      refine ⟨y.kind, cy, bcase_intro (fun d => ?_) fun d => push ?_⟩
      · have d : y.kind ≠ 4 := by simpa using d
        have hr : red1 (out' ++ [y]) x = out' := by unfold red1; simp [c4, d]
        unfold moniker_reduce.k0
        rw [e2, ← hX, hw]
        have lec := Xs.le_cap
        refine ⟨_, _, _, by rw [cell_of Xb]; rfl, by omega, by rw [hln] at lec; omega, ⟨_, by rw [cell_of Xb]; rfl⟩, frozen_of Xb, by rw [setCell_ne nlb]; exact Xl, ?_⟩
        rw [Int.toNat_natCast, Nat.sub_zero, Nat.sub_zero]
        have po := Xw.pop (by rw [← hln]; exact Xb)
        refine hk o _ ?_ put_self nl0 ?_
        · rw [hr]
          exact po.keep fun q hq => put_ne fun z => by
            rcases hq with hq | hq
            · exact nlb (by rw [← z]; exact hq)
            · exact nl0 (by rw [← z]; exact hq)
        · exact (SX.trans (Step.setCell Xb (by simp))).trans (Step.put (.inl (by simp)))
      · have d : y.kind = 4 := by simpa using d
        unfold red1; simp [d]
    · have hp : ¬ 0 < out.length := by have := of_decide_eq_false hp; omega
      have : out = [] := List.length_eq_zero_iff.1 (by omega)
      subst this
      rfl
  · have c4 : x.kind ≠ 4 := by simpa using c4
    unfold red1
    split <;> simp [c4]
end Go.Den.Mon
end

section
set_option linter.unusedVariables false
set_option maxRecDepth 100000
namespace Go.Den.Mon
open Go Go.Den
variable {h : Hp} {K : Value → Hp → Prop}
theorem Step.dropB {o o' r : List Nat} {l : Nat} {h h' : Hp} (s : Step (o ++ r ++ [l]) h (o' ++ r ++ [l]) h') (hl : h l = none) : Step (o ++ r) h (o' ++ r) h' :=
  ⟨fun k hk hn => s.keep k hk fun q => by
      rcases List.mem_append.1 q with q | q
      · exact hn q
      · simp at q; exact hk (by rw [q]; exact hl),
    fun k hk => by
      rcases s.own k (List.mem_append.2 (.inl hk)) with q | q
      · rcases List.mem_append.1 q with q | q
        · exact .inl q
        · simp at q; exact .inr (by rw [q]; exact hl)
      · exact .inr q, s.dom⟩
theorem red1_len {out : List Raw} {x : Raw} : (red1 out x).length ≤ out.length + 1 := by
  unfold red1
  split
  · split
    · simp; omega
    · simp
  · simp
theorem red_len {l : List Raw} : ∀ {out : List Raw}, (red out l).length ≤ out.length + l.length := by
  induction l with
  | nil => intro out; simp [red]
  | cons x l ih =>
    intro out
    have := ih (out := red1 out x)
    have q := red1_len (out := out) (x := x)
    show (red (red1 out x) l).length ≤ _
    simp; omega
theorem red_snoc {out l : List Raw} {x : Raw} : red out (l ++ [x]) = red1 (red out l) x := by simp [red]
theorem prt_ok {h : Hp} {x : Raw} {rows : List Raw} {m : Mon} (t : Top h x rows m) : ∀ r ∈ prt x rows, r.Ok := by
  intro r hr
  unfold prt partsOf at hr
  split at hr
  · split at hr
    · cases hr
    · split at hr
      · exact t.ok r hr
      · simp at hr; rw [hr]; exact t.deep.ok
  · cases hr
theorem redArg {h0 : Hp} {b0 n len : Nat} {a0 : Option Addr} {x : Raw} {rows : List Raw} {m : Mon} {out : List Raw} {o : List Nat} {I0 : List Value → Hp → Prop} {x0 : List Value → Hp → Nat}
    (t : Top h0 x rows m) (hi : n < len) (hlen : len < 1000000) (row : ∃ p, a0 = some p ∧ h0 p.block ≠ none ∧ ∀ h' : Hp, h' p.block = h0 p.block → CellsAt h' (p.add (n * 20)) 20 (mc x).toArray)
    (w : Out h0 b0 out o) (sa : ∀ p, x.sa = some p → x.sn ≠ 0 → p.block ∉ o ∧ p.block ≠ b0 ∧ h0 p.block ≠ none) (hn : out.length + (prt x rows).length < 1000000)
    (hk : ∀ o' h', Out h' b0 (red out (prt x rows)) o' → Step (o ++ [b0]) h0 (o' ++ [b0]) h' → I0 [.int .i64 ((n + 1 : Nat) : Int)] h')
    (hx : ∀ hh, x0 [.int .i64 ((n + 1 : Nat) : Int)] hh < x0 [.int .i64 (n : Int)] h0) : moniker_reduce.k7 (n : Int) len a0 h0 b0 I0 x0 := by
  have k := t.deep.ok
  obtain ⟨p, rfl, hp, cp⟩ := row
  unfold moniker_reduce.k7
  rw [someD_some, Int.toNat_natCast]
  refine ⟨by omega, by omega, _, cp h0 rfl, fun b1 hb1 => ?_⟩
  rw [newM k hb1]
  refine ⟨by simpa using mc_len k, mc_cellish, freeM, _, cellsAt_blk put_self (by simpa using mc_len k), ?_⟩
  refine moniker_Parts.hc ?_
  unfold moniker_Parts
  intro bF hbF
  refine ⟨_, _, _, rfl, ?_⟩
  unfold moniker_reduce.k6
  refine trueD_intro (by kernel_rfl) ?_
  intro l0 R0 hl0 hyall
  obtain ⟨H1, hH1⟩ : ∃ H1, H1 = (((h0.put b1 (.cells (mc x).toArray T.api_Moniker (0, 0))).put bF (.cells (mc x).toArray T.api_Moniker (0, 0))).put l0 R0.ready) := ⟨_, rfl⟩
  have nlF : l0 ≠ bF := fun q => by rw [q, put_self] at hl0; cases hl0
  have nl1 : l0 ≠ b1 := fun q => by rw [q, put_ne (fun z => by rw [← z, put_self] at hbF; cases hbF), put_self] at hl0; cases hl0
  have l00 : h0 l0 = none := by rw [put_ne nlF, put_ne nl1] at hl0; exact hl0
  have F1 : bF ≠ b1 := fun q => by rw [q, put_self] at hbF; cases hbF
  have F0 : h0 bF = none := by rw [put_ne F1] at hbF; exact hbF
  have S1 : ∀ q, Step q h0 q H1 := fun q => by
    rw [hH1]
    exact ((Step.put (.inr hb1)).trans (Step.put (.inr hbF))).trans (Step.put (.inr hl0))
  have HF : MB H1 bF x := by rw [hH1]; show _ = _; rw [put_ne (Ne.symm nlF), put_self]
  have Hl : H1 l0 = some R0.ready := by rw [hH1, put_self]
  obtain ⟨⟨a, c, e, s⟩, f, ko⟩ := id w
  have nl0 : l0 ∉ o := fun q => s.mem l0 q l00
  have nlb : l0 ≠ b0 := fun q => by rw [q, e] at l00; cases l00
  have nF0 : bF ∉ o := fun q => s.mem bF q F0
  have nFb : bF ≠ b0 := fun q => by rw [q, e] at F0; cases F0
  have w1 : Out H1 b0 out o := w.keep fun q hq => by
    have : h0 q ≠ none := by
      rcases hq with rfl | hq
      · rw [e]; simp
      · exact s.mem q hq
    exact (S1 []).keep q this (by simp)
  refine partsIt_spec (l0 := l0) (bF := bF) (h := (((h0.put b1 (.cells (mc x).toArray T.api_Moniker (0, 0))).put bF (.cells (mc x).toArray T.api_Moniker (0, 0))).put l0 R0.ready)) (m := m) (by rw [← hH1]; exact t.step (S1 [])) (by rw [← hH1]; exact HF)
    (fun i hh => ∃ o1, Out hh b0 (red out ((prt x rows).take i)) o1 ∧ hh l0 = some R0.ready ∧ l0 ∉ o1 ∧ Step (o ++ [b0, l0]) H1 (o1 ++ [b0, l0]) hh) (fun _ => False) ?_ ?_ ?_ ?_ ?_ (fun _ z => z.elim)
  · rw [← hH1]
    exact ⟨o, by simpa [red] using w1, Hl, nl0, Step.refl _ _⟩
  · rintro i hh hh' ⟨o1, g1, g2, g3, g4⟩ st
    refine ⟨o1, g1.keep fun q hq => ?_, by rw [st.keep l0 (by rw [g2]; simp) (by simp)]; exact g2, g3, g4.trans (by simpa using st.frame (o1 ++ [b0, l0]))⟩
    refine st.keep q ?_ (by simp)
    obtain ⟨a', c', e', s'⟩ := g1.row
    rcases hq with rfl | hq
    · rw [e']; simp
    · exact s'.mem q hq
  · rintro i hh ⟨o1, g1, g2, g3, g4⟩
    rw [← hH1]
    refine ⟨g4.keep bF (by rw [HF]; simp) (by simp [nF0, nFb, Ne.symm nlF]), fun q eq en hq => g4.keep _ hq ?_⟩
    obtain ⟨d1, d2, d3⟩ := sa q eq en
    have d4 : q.block ≠ l0 := fun z => d3 (by rw [z]; exact l00)
    simp [d1, d2, d4]
  · rintro i r hh C hr ⟨o1, g1, g2, g3, g4⟩ yes no
    have kr := prt_ok t r (List.mem_of_getElem? hr)
    have hil : i < (prt x rows).length := (List.getElem?_eq_some_iff.1 hr).1
    refine hyall (mc r).toArray hh C g2 ?_
    refine redBody kr g1 g2 g3 nlb (by have := red_len (out := out) (l := (prt x rows).take i); rw [List.length_take] at this; omega) fun o' h' q1 q2 q3 q4 => yes h' ⟨o', ?_, q2, q3, g4.trans q4⟩
    rw [List.take_add_one, hr]
    show Out h' b0 (red out (_ ++ [r])) o'
    rw [red_snoc]; exact q1
  · rintro hh ⟨o1, g1, g2, g3, g4⟩
    rw [List.take_length] at g1
    unfold moniker_reduce.k5
    refine .inl ⟨g2, ?_, ?_⟩
    · rw [wrapN (m := n + 1) (by simp) (by omega)]
      have gs : Step (o ++ [b0] ++ [l0]) h0 (o1 ++ [b0] ++ [l0]) (hh.put l0 R0.over) := by
        simpa using ((S1 (o ++ [b0, l0])).trans g4).trans (Step.put (.inl (by simp)))
      refine hk o1 _ (g1.keep fun q hq => put_ne fun z => ?_) (Step.dropB gs l00)
      rcases hq with hq | hq
      · exact nlb (by rw [← z, hq])
      · exact g3 (by rw [← z]; exact hq)
    · rw [wrapN (m := n + 1) (by simp) (by omega)]
      exact hx _
end Go.Den.Mon
end

section
set_option linter.unusedVariables false
set_option maxRecDepth 100000
namespace Go.Den.Mon
open Go Go.Den
variable {h : Hp} {K : Value → Hp → Prop}
def redAll (ts : List (Raw × List Raw)) : List Raw := ts.foldl (fun out t => red out (prt t.1 t.2)) []
theorem redAll_snoc {ts : List (Raw × List Raw)} {t : Raw × List Raw} : redAll (ts ++ [t]) = red (redAll ts) (prt t.1 t.2) := by simp [redAll]
theorem redAll_len {ts : List (Raw × List Raw)} (hb : ∀ t ∈ ts, (prt t.1 t.2).length ≤ 1000) : ∀ j, (redAll (ts.take j)).length ≤ 1000 * j := by
  intro j
  induction j with
  | zero => simp [redAll]
  | succ j ih =>
    rw [List.take_add_one]
    cases hj : ts[j]? with
    | none => simp; omega
    | some t =>
      show (redAll (_ ++ [t])).length ≤ _
      rw [redAll_snoc]
      have := red_len (out := redAll (ts.take j)) (l := prt t.1 t.2)
      have := hb t (List.mem_of_getElem? hj)
      omega
theorem reduce_spec {a : Option Addr} {n c : Nat} {ts : List (Raw × List Raw)} (hs : SrcAt h 20 (.slice a n c) n (mcs (ts.map Prod.fst))) (hl : ts.length = n) (hn : n ≤ 900)
    (top : ∀ t ∈ ts, ∃ m, Top h t.1 t.2 m) (hb : ∀ t ∈ ts, (prt t.1 t.2).length ≤ 1000)
    (hk : ∀ a' c' o h', SlAt h' T.api_Moniker 20 AnyV a' (redAll ts).length c' (mcs (redAll ts)) o → (∀ r ∈ redAll ts, r.Ok) → Step [] h o h' → K (.slice a' (redAll ts).length c') h') :
    HC P moniker_reduce.n #[.slice a n c] h K := by
  refine moniker_reduce.hc ?_
  unfold moniker_reduce
  intro b0 hb0
  refine ⟨fun vs hh => ∃ (j : Nat) (o : List Nat), vs = [.int .i64 (j : Int)] ∧ j ≤ n ∧ Out hh b0 (redAll (ts.take j)) o ∧ Step [] h (o ++ [b0]) hh,
    fun vs _ => match vs with | [.int _ i] => n - i.toNat | _ => 0, ⟨0, [], rfl, by omega, ⟨⟨none, 0, by rw [put_self]; rfl, .none⟩, by simp, by simp [redAll]⟩, by simpa using Step.new hb0⟩, ?_⟩
  rintro h0 n0 ⟨j, o, he, hj, w, st⟩
  have en : n0 = (j : Int) := by cases he; rfl
  clear he
  subst en
  refine bcase_intro (fun hc => ?_) fun hc => ?_
  · have hc : j < n := by have := of_decide_eq_true hc; omega
    obtain ⟨t, ht⟩ : ∃ t, ts[j]? = some t := ⟨_, List.getElem?_eq_getElem (by omega)⟩
    have mt := List.mem_of_getElem? ht
    obtain ⟨m, T0⟩ := top t mt
    have okx : ∀ r ∈ ts.map Prod.fst, r.Ok := fun r hr => by
      obtain ⟨t', h1, rfl⟩ := List.mem_map.1 hr
      obtain ⟨m', T'⟩ := top t' h1
      exact T'.deep.ok
    obtain ⟨p, ep, hp, cp⟩ := srcM hs okx (by simpa using hl) (i := j) (x := t.1) (by rw [List.getElem?_map, ht]; rfl)
    have fo : ∀ q, q ∈ o ++ [b0] → h q = none := fun q hq => by
      rcases st.own q hq with z | z
      · cases z
      · exact z
    have len := redAll_len hb j
    have ln1 := hb t mt
    refine redArg (T0.step st.forget0) hc (by omega) ⟨p, ep, st.dom _ hp, fun h' e => cp h' (by rw [e]; exact st.keep _ hp (by simp))⟩ w (fun q eq en => ?_) (by omega) (fun o' h' g1 g2 => ⟨j + 1, o', rfl, by omega, ?_, st.trans g2⟩) (fun hh => ?_)
    · have d := T0.blk q eq en
      exact ⟨fun z => d (fo _ (by simp [z])), fun z => d (fo _ (by simp [z])), st.dom _ d⟩
    · rw [List.take_add_one, ht]
      show Out h' b0 (redAll (_ ++ [t])) o'
      rw [redAll_snoc]; exact g1
    · show n - ((j + 1 : Nat) : Int).toNat < n - (j : Int).toNat
      omega
  · have hc : j = n := by have := of_decide_eq_false hc; omega
    have et : ts.take j = ts := List.take_of_length_le (by omega)
    rw [et] at w
    obtain ⟨⟨a', c', e, s⟩, f, ko⟩ := w
    unfold moniker_reduce.k8
    refine ⟨a', _, c', by rw [cell_of e]; rfl, hk a' c' o h0 s ko (st.weak (fun _ z => z) fun k hk => .inl (by simp [hk]))⟩
end Go.Den.Mon
end

section
set_option linter.unusedVariables false
namespace Go.Den.Mon
open Go Go.Den
def flat : List Raw → Prop
  | y :: x :: l => ¬ (x.kind = 4 ∧ y.kind ≠ 4) ∧ flat (x :: l)
  | _ => True
theorem red_append {out l r : List Raw} : red out (l ++ r) = red (red out l) r := by simp [red]
theorem red1_last {out : List Raw} {x y : Raw} (e : out.getLast? = some y) : red1 out x = if x.kind = 4 ∧ y.kind ≠ 4 then out.dropLast else out ++ [x] := by
  unfold red1; rw [e]
theorem red_cut {out l r : List Raw} {y x : Raw} (hx : x.kind = 4) (hy : y.kind ≠ 4) : red out (l ++ y :: x :: r) = red out (l ++ r) := by
  rw [red_append, red_append]
  generalize red out l = z
  show red (red1 (red1 z y) x) r = red z r
  have e1 : red1 z y = z ++ [y] := by
    unfold red1
    split
    · rw [if_neg fun q => hy q.1]
    · rfl
  rw [e1, red1_last (y := y) (by simp), if_pos ⟨hx, hy⟩]
  simp
theorem flat_red : ∀ {l out : List Raw}, flat l → (∀ y x, out.getLast? = some y → l.head? = some x → ¬ (x.kind = 4 ∧ y.kind ≠ 4)) → red out l = out ++ l := by
  intro l
  induction l with
  | nil => intro out _ _; simp [red]
  | cons x l ih =>
    intro out hf hh
    have e1 : red1 out x = out ++ [x] := by
      unfold red1
      split
      · rename_i y hy
        rw [if_neg (hh y x hy rfl)]
      · rfl
    show red (red1 out x) l = _
    rw [e1, ih ?_ ?_]
    · simp
    · cases l with
      | nil => trivial
      | cons z l => exact hf.2
    · intro y z hy hz
      simp at hy
      subst hy
      cases l with
      | nil => cases hz
      | cons w l => simp at hz; subst hz; exact hf.1
theorem flat_self {l : List Raw} (hf : flat l) : red [] l = l := by
  have := flat_red (out := []) hf (by simp)
  simpa using this
theorem flat_snoc : ∀ {l : List Raw} {x : Raw}, flat l → (∀ y, l.getLast? = some y → ¬ (x.kind = 4 ∧ y.kind ≠ 4)) → flat (l ++ [x])
  | [], x, _, _ => trivial
  | [y], x, _, hh => ⟨hh y rfl, trivial⟩
  | y :: z :: l, x, hf, hh => ⟨hf.1, flat_snoc (l := z :: l) hf.2 fun w hw => hh w (by simpa using hw)⟩
theorem flat_take {l : List Raw} {i : Nat} {x : Raw} (hf : flat (l.take i)) (hx : l[i]? = some x) (hy : ∀ y, i ≠ 0 → l[i - 1]? = some y → ¬ (x.kind = 4 ∧ y.kind ≠ 4)) : flat (l.take (i + 1)) := by
  rw [List.take_add_one, hx]
  refine flat_snoc hf fun y e => ?_
  have hi : i < l.length := (List.getElem?_eq_some_iff.1 hx).1
  have h0 : i ≠ 0 := fun q => by rw [q] at e; simp at e
  refine hy y h0 ?_
  rw [List.getLast?_eq_getElem?, List.length_take, Nat.min_eq_left (by omega), List.getElem?_take_of_lt (by omega)] at e
  exact e
end Go.Den.Mon
end

section
set_option linter.unusedVariables false
namespace Go.Den.Mon
open Go Go.Den
theorem src_take {h : Hp} {sz n c i c' : Nat} {p : Addr} {cs : List Value} (hs : SrcAt h sz (.slice (some p) n c) n cs) (hi : i ≤ n) : SrcAt h sz (.slice (offA (some p) c 0 sz) i c') i (cs.take (i * sz)) := by
  have eo : offA (some p) c 0 sz = some p := by
    unfold offA
    split
    · rfl
    · simp only [Option.map_some, Nat.zero_mul]; rfl
  rw [eo]
  cases hs with
  | some q =>
    have l := q.1
    have m : i * sz ≤ n * sz := Nat.mul_le_mul_right _ hi
    refine .some ⟨by simp at l ⊢; omega, fun j v hv => q.2 j v ?_⟩
    simp at hv ⊢
    rw [List.getElem?_take] at hv
    split at hv
    · exact hv
    · cases hv
theorem src_drop {h : Hp} {sz n c i c' : Nat} {p : Addr} {cs : List Value} (hs : SrcAt h sz (.slice (some p) n c) n cs) (hi : i ≤ n) (hc : n ≤ c) : SrcAt h sz (.slice (offA (some p) c i sz) (n - i) c') (n - i) (cs.drop (i * sz)) := by
  cases hs with
  | some q =>
    have l := q.1
    have l' : cs.length = n * sz := by simpa using l
    unfold offA
    split
    · have e : i = n := by omega
      subst e
      rw [List.drop_of_length_le (by omega), Nat.sub_self]
      exact .some ⟨by simp, fun j v hv => by simp at hv⟩
    · refine .some ⟨by simp [l', Nat.sub_mul], fun j v hv => ?_⟩
      simp at hv
      have e : (p.add (i * sz)).add j = p.add (i * sz + j) := by
        unfold Addr.add
        by_cases h1 : i * sz = 0 <;> by_cases h2 : j = 0 <;> simp [h1, h2, Nat.add_assoc]
      show h.cell? ((p.add (i * sz)).add j) = some v
      rw [e]
      exact q.2 (i * sz + j) v (by simpa using hv)
end Go.Den.Mon
end

section
set_option linter.unusedVariables false
set_option maxRecDepth 100000
namespace Go.Den.Mon
open Go Go.Den
variable {h : Hp} {K : Value → Hp → Prop}
theorem mcs_take {l : List Raw} (ok : ∀ r ∈ l, r.Ok) : ∀ i, (mcs l).take (i * 20) = mcs (l.take i) := by
  induction l with
  | nil => intro i; simp [mcs]
  | cons x l ih =>
    intro i
    cases i with
    | zero => simp [mcs]
    | succ i =>
      have e : mcs (x :: l) = mc x ++ mcs l := by simp [mcs]
      have lx := mc_len (ok x (by simp))
      rw [e, List.take_append, lx, List.take_of_length_le (by omega), show (i + 1) * 20 - 20 = i * 20 by omega, ih (fun r hr => ok r (by simp [hr]))]
      simp [mcs]
theorem mcs_drop {l : List Raw} (ok : ∀ r ∈ l, r.Ok) : ∀ i, (mcs l).drop (i * 20) = mcs (l.drop i) := by
  induction l with
  | nil => intro i; simp [mcs]
  | cons x l ih =>
    intro i
    cases i with
    | zero => simp [mcs]
    | succ i =>
      have e : mcs (x :: l) = mc x ++ mcs l := by simp [mcs]
      have lx := mc_len (ok x (by simp))
      rw [e, List.drop_append, lx, List.drop_of_length_le (by omega), show (i + 1) * 20 - 20 = i * 20 by omega, ih (fun r hr => ok r (by simp [hr]))]
      simp
theorem mcs_cellish {l : List Raw} : ∀ v ∈ mcs l, cellish v = true := by
  intro v hv
  unfold mcs at hv
  obtain ⟨r, -, h2⟩ := List.mem_flatMap.1 hv
  exact mc_cellish v (by simpa using h2)
end Go.Den.Mon
end

section
set_option linter.unusedVariables false
set_option maxRecDepth 100000
namespace Go.Den.Mon
open Go Go.Den
variable {h : Hp} {K : Value → Hp → Prop}
structure RInv (h : Hp) (xs cur : List Raw) (j : Nat) (a : Option Addr) (c : Nat) (o : List Nat) (hh : Hp) : Prop where
  sl : SlAt hh T.api_Moniker 20 AnyV a cur.length c (mcs cur) o
  ok : ∀ r ∈ cur, r.Ok
  flat : flat (cur.take j)
  red : red [] cur = red [] xs
  len : cur.length ≤ xs.length
  j1 : 1 ≤ j
  jn : j ≤ xs.length + 1
  st : Step [] h o hh
theorem rReduced_spec {a : Option Addr} {n c : Nat} {xs : List Raw} (hs : SrcAt h 20 (.slice a n c) n (mcs xs)) (ok : ∀ r ∈ xs, r.Ok) (hl : xs.length = n) (hn : n < 1000000)
    (hk : ∀ a' c' o h', SlAt h' T.api_Moniker 20 AnyV a' (red [] xs).length c' (mcs (red [] xs)) o → (∀ r ∈ red [] xs, r.Ok) → Step [] h o h' → K (.slice a' (red [] xs).length c') h') :
    HC P ref21_Reduced.n #[.slice a n c] h K := by
  refine ref21_Reduced.hc ?_
  unfold ref21_Reduced
  intro b0 hb0
  have s0 : Step [] h [b0] (h.put b0 (.cells #[] T.api_Moniker (0, 0))) := Step.new hb0
  refine append_wp (P := P) (Z := AnyV) (vs := []) (o := [b0]) (cs := mcs xs) (n := n) slMon slMon.1 (.some (pre := []) (rest := []) (post := []) (by rw [put_self]; rfl) rfl (by simp) (by simp) (Nat.le_refl _) (by simp)) (fun _ _ _ _ _ _ => trivial) (hs.sub s0.sub0) mcs_cellish (by omega) fun a1 c1 o1 h1 t1 _ st1 => ?_
  have st1 := s0.trans st1
  obtain ⟨I0, hI0⟩ : ∃ I0 : List Value → Hp → Prop, I0 = fun vs hh => ∃ (cur : List Raw) (j : Nat) (a : Option Addr) (c : Nat) (o : List Nat), vs = [.slice a cur.length c, .int .i64 (j : Int)] ∧ RInv h xs cur j a c o hh := ⟨_, rfl⟩
  obtain ⟨x0, hx0⟩ : ∃ x0 : List Value → Hp → Nat, x0 = fun vs _ => match vs with | [.slice _ n1 _, .int _ i] => n1 * 2000000 + (1000002 - i.toNat) | _ => 0 := ⟨_, rfl⟩
  refine ⟨a1, _, c1, rfl, I0, x0, ?_⟩
  unfold ref21_Reduced.k6
  refine ⟨?_, ?_⟩
  · rw [hI0]
    refine ⟨xs, 1, a1, c1, o1, by rw [Nat.zero_add, hl]; rfl, ⟨?_, ok, ?_, rfl, Nat.le_refl _, by omega, by omega, st1⟩⟩
    · rw [hl]; simpa using t1
    · cases xs with
      | nil => trivial
      | cons x l => trivial
  intro hh a2 n1 c2 n2 hin
  rw [hI0] at hin
  obtain ⟨cur, j, a', c', o, he, iv⟩ := hin
  have e1 : a2 = a' ∧ n1 = cur.length ∧ c2 = c' ∧ n2 = (j : Int) := by cases he; exact ⟨rfl, rfl, rfl, rfl⟩
  clear he
  obtain ⟨rfl, rfl, rfl, rfl⟩ := e1
  have j1 := iv.j1
  have jn := iv.jn
  have hlen := iv.len
  refine bcase_intro (fun hc => ?_) fun hc => ?_
  case refine_2 =>
    have hc : cur.length ≤ j := by have := of_decide_eq_false hc; omega
    have f := iv.flat
    rw [List.take_of_length_le hc] at f
    have e : cur = red [] xs := by rw [← iv.red, flat_self f]
    have hk' := hk
    rw [← e] at hk'
    exact hk' a2 c2 o hh iv.sl iv.ok iv.st
  have hc : j < cur.length := by have := of_decide_eq_true hc; omega
  obtain ⟨x, hx⟩ : ∃ x, cur[j]? = some x := ⟨_, List.getElem?_eq_getElem hc⟩
  obtain ⟨y, hy⟩ : ∃ y, cur[j - 1]? = some y := ⟨_, List.getElem?_eq_getElem (by omega)⟩
  obtain ⟨p, ep, -, cp⟩ := srcM iv.sl.src iv.ok rfl hx
  obtain ⟨p', ep', -, cp'⟩ := srcM iv.sl.src iv.ok rfl hy
  have epp : p' = p := by rw [ep] at ep'; cases ep'; rfl
  subst epp
  have keep3 : ¬ (x.kind = 4 ∧ y.kind ≠ 4) → ref21_Reduced.k3 I0 (some p') cur.length c2 (j : Int) hh x0 := by
    intro hno
    unfold ref21_Reduced.k3
    rw [wrapN (m := j + 1) (by simp) (by omega)]
    refine ⟨by
      rw [hI0]
      exact ⟨cur, j + 1, some p', c2, o, rfl, ⟨by rw [← ep]; exact iv.sl, iv.ok, flat_take iv.flat hx fun z _ hz => (by rw [hy] at hz; cases hz; exact hno), iv.red, iv.len, by omega, by omega, iv.st⟩⟩, ?_⟩
    rw [hx0]
    show cur.length * 2000000 + (1000002 - ((j + 1 : Nat) : Int).toNat) < cur.length * 2000000 + (1000002 - (j : Int).toNat)
    omega
  have cx : hh.cell? ((p'.add (j * 20)).add 0) = some (.int .i64 x.kind) := (cp hh rfl).2 0 _ rfl
  have cy : hh.cell? ((p'.add ((j - 1) * 20)).add 0) = some (.int .i64 y.kind) := (cp' hh rfl).2 0 _ rfl
  unfold ref21_Reduced.k5
  rw [ep, someD_some, Int.toNat_natCast]
  refine ⟨by omega, by omega, _, cx, bcase_intro (fun c4 => ?_) fun c4 => keep3 fun q => by simp [q.1] at c4⟩
  have c4 : x.kind = 4 := by simpa using c4
  unfold ref21_Reduced.k4
  rw [wrapN (m := j - 1) (by omega) (by omega), someD_some, Int.toNat_natCast]
  refine ⟨by omega, by omega, _, cy, bcase_intro (fun c5 => ?_) fun c5 => keep3 fun q => by simp [q.2] at c5⟩
  have c5 : y.kind ≠ 4 := by simpa using c5
  have sl := iv.sl
  rw [ep] at sl
  have lc := sl.le_cap
  unfold ref21_Reduced.k2
  rw [wrapN (m := j - 1) (by omega) (by omega), Int.toNat_natCast, Nat.sub_zero, Nat.sub_zero]
  refine ⟨by omega, by omega, ?_⟩
  have T1 := src_take (c' := c2) sl.src (i := j - 1) (by omega)
  rw [mcs_take iv.ok] at T1
  refine append_wp (P := P) (Z := AnyV) (n := j - 1) slMon slMon.1 .none (fun _ _ _ _ _ _ => trivial) T1 mcs_cellish (by omega) fun a3 c3 o3 h3 t3 _ st3 => ⟨a3, _, c3, rfl, ?_⟩
  unfold ref21_Reduced.k1
  rw [wrapN (m := j + 1) (by simp) (by omega), Int.toNat_natCast]
  refine ⟨by omega, by omega, ?_⟩
  have T2 := src_drop (c' := c2 - (j + 1)) sl.src (i := j + 1) (by omega) lc
  rw [mcs_drop iv.ok] at T2
  refine append_wp (P := P) (Z := AnyV) (n := cur.length - (j + 1)) slMon slMon.1 t3 (fun _ _ _ _ _ _ => trivial) (T2.sub st3.sub0) mcs_cellish (by omega) fun a4 c4' o4 h4 t4 _ st4 => ⟨a4, _, c4', rfl, ?_⟩
  obtain ⟨nx, hnx⟩ : ∃ nx, nx = cur.take (j - 1) ++ cur.drop (j + 1) := ⟨_, rfl⟩
  have ecur : cur = cur.take (j - 1) ++ y :: x :: cur.drop (j + 1) := by
    have q1 : cur.drop (j - 1) = y :: cur.drop (j - 1 + 1) := by
      have := List.getElem_of_getElem? hy
      rw [← this.2]; exact List.drop_eq_getElem_cons this.1
    have q2 : cur.drop j = x :: cur.drop (j + 1) := by
      have := List.getElem_of_getElem? hx
      rw [← this.2]; exact List.drop_eq_getElem_cons this.1
    rw [show j - 1 + 1 = j by omega, q2] at q1
    conv => lhs; rw [← List.take_append_drop (j - 1) cur, q1]
  have lnx : nx.length = cur.length - 2 := by rw [hnx, List.length_append, List.length_take, List.length_drop]; omega
  have mnx : mcs nx = ([] : List Value) ++ mcs (cur.take (j - 1)) ++ mcs (cur.drop (j + 1)) := by rw [hnx]; simp [mcs]
  have elen : 0 + (j - 1) + (cur.length - (j + 1)) = nx.length := by omega
  rw [elen] at t4 ⊢
  rw [← mnx] at t4
  unfold ref21_Reduced.k0
  rw [wrapN (m := 1) (by simp) (by omega)]
  refine ⟨?_, ?_⟩
  · rw [hI0]
    refine ⟨nx, 1, a4, c4', o4, rfl, ⟨t4, fun r hr => ?_, ?_, ?_, by omega, by omega, by omega, ?_⟩⟩
    · rw [hnx] at hr
      rcases List.mem_append.1 hr with z | z
      · exact iv.ok r (List.mem_of_mem_take z)
      · exact iv.ok r (List.mem_of_mem_drop z)
    · cases nx with
      | nil => trivial
      | cons z l => trivial
    · rw [← iv.red, hnx]
      conv => rhs; rw [ecur]
      exact (red_cut c4 c5).symm
    · refine ((iv.st.trans (st3.frame o)).trans (st4.frame o)).weak (fun _ z => z) fun k hk => .inl (by simp [hk])
  · rw [hx0]
    show nx.length * 2000000 + (1000002 - ((1 : Nat) : Int).toNat) < cur.length * 2000000 + (1000002 - (j : Int).toNat)
    omega
end Go.Den.Mon
end

section
set_option linter.unusedVariables false
set_option maxRecDepth 100000
namespace Go.Den.Mon
open Go Go.Den
variable {h : Hp} {K : Value → Hp → Prop}
def leaf (r : Raw) : Mon := .mk r.kind r.id r.txt.data.toList r.H []
def ofTree : List Raw → Mon
  | [] => .mk 0 z16 [] 0 []
  | [r] => leaf r
  | r :: s :: l => .mk 5 z16 [] 0 ((r :: s :: l).map leaf)
def ofRaw (a : Option Addr) (c : Nat) : List Raw → Raw
  | [] => nl
  | [r] => r
  | r :: s :: l => li a (r :: s :: l).length c
theorem rp_sn {r : Raw} (e : rpart r = true) : r.sn = 0 := by
  unfold rpart at e
  split at e
  · exact (of_decide_eq_true e).2.2.1
  · split at e
    · exact (of_decide_eq_true e).2.2
    · split at e
      · exact (of_decide_eq_true e).2.2
      · split at e
        · exact (of_decide_eq_true e).2.2.2
        · cases e
theorem rp_kind {r : Raw} (e : rpart r = true) : r.kind = 1 ∨ r.kind = 2 ∨ r.kind = 3 ∨ r.kind = 4 := by
  unfold rpart at e
  split at e
  · exact .inl ‹_›
  · split at e
    · exact .inr (.inl ‹_›)
    · split at e
      · exact .inr (.inr (.inl ‹_›))
      · split at e
        · exact .inr (.inr (.inr ‹_›))
        · cases e
theorem rp_src {r : Raw} (e : rpart r = true) : SrcAt h 20 (.slice r.sa r.sn r.sc) r.sn (mcs []) := by
  rw [rp_sn e]
  cases r.sa with
  | none => exact .none
  | some p => exact .some ⟨by simp [mcs], fun j v hv => by simp [mcs] at hv⟩
theorem leaf_top {r : Raw} (k : r.Ok) (e : rpart r = true) : Top h r [] (leaf r) :=
  ⟨.mk (rows := []) (ms := []) k (by rw [rp_sn e]; omega) (by rw [rp_sn e]; rfl) (rp_src e) (by simp) rfl (by simp), rp_src e, by simp, by rw [rp_sn e]; rfl⟩
def Got (h : Hp) (l : List Raw) (y : Raw) : Prop := ∃ rows, Top h y rows (ofTree l) ∧ partsOf y rows = l ∧ rright y rows = true
theorem Got.step {h' : Hp} {l : List Raw} {y : Raw} (g : Got h l y) (s : Step [] h [] h') : Got h' l y := by
  obtain ⟨rows, t, e, f⟩ := g
  exact ⟨rows, t.step s, e, f⟩
theorem rr_part {r : Raw} (rp : rpart r = true) : rright r [] = true ∧ partsOf r [] = [r] := by
  have hk := rp_kind rp
  have h0 : r.kind ≠ 0 := by omega
  have h5 : r.kind ≠ 5 := by omega
  exact ⟨by unfold rright; rw [if_neg h0, if_neg h5]; exact rp, by unfold partsOf; rw [if_neg h0, if_neg h5]⟩
theorem got_of {a : Option Addr} {c : Nat} {l : List Raw} (hs : SrcAt h 20 (.slice a l.length c) l.length (mcs l)) (ok : ∀ r ∈ l, r.Ok) (rp : ∀ r ∈ l, rpart r = true) (hn : l.length ≤ 64) : Got h l (ofRaw a c l) := by
  match l, hs, ok, rp, hn with
  | [], _, _, _, _ => exact ⟨[], ⟨nl_deep, .none, by simp, rfl⟩, rfl, by unfold rright; rw [if_pos (show (ofRaw a c []).kind = 0 from rfl)]; exact decide_eq_true ⟨rfl, rfl, rfl, rfl⟩⟩
  | [r], _, ok, rp, _ =>
    have k := ok r (by simp)
    have e := rp r (by simp)
    exact ⟨[], leaf_top k e, (rr_part e).2, (rr_part e).1⟩
  | r :: s :: l, hs, ok, rp, hn =>
    refine ⟨r :: s :: l, ⟨.mk (x := li a (r :: s :: l).length c) (ms := (r :: s :: l).map leaf) li_ok (by show (r :: s :: l).length < _; omega) rfl hs ok (by simp) ?_, hs, ok, rfl⟩, rfl, ?_⟩
    · intro i q m hi hm
      rw [List.getElem?_map, hi] at hm
      cases hm
      have mq := List.mem_of_getElem? hi
      exact (leaf_top (ok q mq) (rp q mq)).deep
    · unfold rright
      rw [if_neg (by show ¬ ((5 : Int) = 0); omega), if_pos (show (ofRaw a c (r :: s :: l)).kind = 5 from rfl), decide_eq_true ⟨rfl, rfl, rfl, by show 2 ≤ (r :: s :: l).length; simp, hn⟩, Bool.true_and]
      exact List.all_eq_true.2 rp
theorem gOf_got {a : Option Addr} {c : Nat} {l : List Raw} (hs : SrcAt h 20 (.slice a l.length c) l.length (mcs l)) (ok : ∀ r ∈ l, r.Ok)
    (hk : l.length ≤ 64 → ∀ h', Step [] h [] h' → K (.tuple #[.agg (mc (ofRaw a c l)).toArray, .int .i64 0]) h') (hx : 64 < l.length → ∀ h', Step [] h [] h' → K (.tuple #[.agg (mc nl).toArray, .int .i64 20]) h') :
    HC P moniker_of.n #[.slice a l.length c] h K := by
  refine gOf_spec hs ok rfl (fun e h' s => ?_) (fun r e h' s => ?_) hx fun e1 e2 h' s => ?_
  · obtain rfl := List.length_eq_zero_iff.1 e
    exact hk (by simp) h' s
  · subst e
    exact hk (by simp) h' s
  · have := hk e2 h' s
    match l, e1, this with
    | [], e1, _ => simp at e1
    | [_], e1, _ => simp at e1
    | _ :: _ :: _, _, this => exact this
theorem rOf_got {a : Option Addr} {c : Nat} {l : List Raw} (hs : SrcAt h 20 (.slice a l.length c) l.length (mcs l)) (ok : ∀ r ∈ l, r.Ok)
    (hk : l.length ≤ 64 → ∀ h', Step [] h [] h' → K (.tuple #[.agg (mc (ofRaw a c l)).toArray, .bool true]) h') (hx : 64 < l.length → ∀ h', Step [] h [] h' → K (.tuple #[.agg (mc nl).toArray, .bool false]) h') :
    HC P ref21_Of.n #[.slice a l.length c] h K := by
  refine rOf_spec hs ok rfl (fun e h' s => ?_) (fun r e h' s => ?_) hx fun e1 e2 h' s => ?_
  · obtain rfl := List.length_eq_zero_iff.1 e
    exact hk (by simp) h' s
  · subst e
    exact hk (by simp) h' s
  · have := hk e2 h' s
    match l, e1, this with
    | [], e1, _ => simp at e1
    | [_], e1, _ => simp at e1
    | _ :: _ :: _, _, this => exact this
theorem ofRaw_ok {a : Option Addr} {c : Nat} {l : List Raw} (ok : ∀ r ∈ l, r.Ok) : (ofRaw a c l).Ok := by
  match l, ok with
  | [], _ => exact nl_ok
  | [r], ok => exact ok r (by simp)
  | _ :: _ :: _, _ => exact li_ok
theorem retM2 {y : Raw} {b : Nat} {C : Value → Hp → Prop} (k : y.Ok) (hb : h b = some (.cells zMon T.api_Moniker (0, 0))) (hk : C (.agg (mc y).toArray) (h.put b (.cells (mc y).toArray T.api_Moniker (0, 0)))) :
    Free h ⟨b, 0, none⟩ 20 ∧ ∃ cs : Array Value, CellsAt (h.setCells ⟨b, 0, none⟩ (mc y).toArray) ⟨b, 0, none⟩ 20 cs ∧ C (.agg cs) (h.setCells ⟨b, 0, none⟩ (mc y).toArray) := by
  rw [setCells_blk (z := zMon) hb (by simpa using (mc_len k).symm)]
  exact ⟨free_blk hb rfl, _, cellsAt_blk put_self (by simpa using mc_len k), hk⟩
/-! ### Parts -/
section
variable {x : Raw} {rows : List Raw} {m : Mon}
theorem prt_right (e : rright x rows = true) : prt x rows = partsOf x rows := by unfold prt; rw [if_pos e]
theorem parts_rp (e : rright x rows = true) : ∀ r ∈ partsOf x rows, rpart r = true := by
  intro r hr
  unfold partsOf at hr
  unfold rright at e
  split at hr
  · simp at hr
  · rename_i h0
    rw [if_neg h0] at e
    split at hr
    · rename_i h5
      rw [if_pos h5, Bool.and_eq_true] at e
      exact List.all_eq_true.1 e.2 r hr
    · rename_i h5
      rw [if_neg h5] at e
      simp at hr; subst hr; exact e
theorem parts_len (t : Top h x rows m) (e : rright x rows = true) : (partsOf x rows).length ≤ 64 := by
  unfold partsOf
  unfold rright at e
  split
  · simp
  · rename_i h0
    rw [if_neg h0] at e
    split
    · rename_i h5
      rw [if_pos h5, Bool.and_eq_true] at e
      rw [t.len]
      exact (of_decide_eq_true e.1).2.2.2.2
    · simp
theorem red1_mem {out : List Raw} {x : Raw} : ∀ r ∈ red1 out x, r ∈ out ∨ r = x := by
  intro r hr
  unfold red1 at hr
  split at hr
  · split at hr
    · exact .inl (List.dropLast_subset _ hr)
    · simpa using hr
  · simpa using hr
theorem red_mem : ∀ {l out : List Raw}, ∀ r ∈ red out l, r ∈ out ∨ r ∈ l
  | [], out, r, hr => .inl hr
  | x :: l, out, r, hr => by
    rcases red_mem (l := l) (out := red1 out x) r hr with z | z
    · rcases red1_mem r z with z | z
      · exact .inl z
      · exact .inr (by simp [z])
    · exact .inr (by simp [z])
theorem red_rp {out l : List Raw} (h1 : ∀ r ∈ out, rpart r = true) (h2 : ∀ r ∈ l, rpart r = true) : ∀ r ∈ red out l, rpart r = true := fun r hr => (red_mem r hr).elim (h1 r) (h2 r)
end
end Go.Den.Mon
end

section
set_option linter.unusedVariables false
set_option maxRecDepth 100000
namespace Go.Den.Mon
open Go Go.Den
variable {h : Hp} {K : Value → Hp → Prop}
theorem retGot {b1 : Nat} {h2 : Hp} {l : List Raw} {a : Option Addr} {c : Nat} {o : List Nat} {C : Value → Hp → Prop} (ok : ∀ r ∈ l, r.Ok) (rp : ∀ r ∈ l, rpart r = true) (hn : l.length ≤ 64)
    (hb : h2 b1 = some (.cells zMon T.api_Moniker (0, 0))) (s : SlAt h2 T.api_Moniker 20 AnyV a l.length c (mcs l) o) (ho : b1 ∉ o) (st : Step [b1] h [b1] h2)
    (hk : ∀ y h', Got h' l y → Step [b1] h [b1] h' → C (.agg (mc y).toArray) h') :
    (∀ v, (v ∈ (Array.toList (mc (ofRaw a c l)).toArray : List Value) → cellish v = true)) ∧ Free h2 ⟨b1, 0, none⟩ 20 ∧ ∃ cs : Array Value, CellsAt (h2.setCells ⟨b1, 0, none⟩ (mc (ofRaw a c l)).toArray) ⟨b1, 0, none⟩ 20 cs ∧ C (.agg cs) (h2.setCells ⟨b1, 0, none⟩ (mc (ofRaw a c l)).toArray) := by
  refine ⟨mc_cellish, retM2 (C := C) (ofRaw_ok ok) hb (hk _ _ (got_of (a := a) (c := c) ?_ ok rp hn) (st.trans (Step.put (.inl (by simp)))))⟩
  exact (s.keep fun q hq => put_ne fun z => ho (by rw [← z]; exact hq)).src
theorem src_one {h : Hp} {b n : Nat} {x : Raw} (k : x.Ok) : SrcAt (h.put b (.cells (Array.mk (catA (mc x).toArray [])) T.api_Moniker (0, 0))) 20 (.slice (some ⟨b, 0, none⟩) 1 n) 1 (mcs [x]) := by
  have eC : (Array.mk (catA (mc x).toArray [])) = (mc x).toArray := by unfold catA; simp
  rw [eC]
  refine .some ⟨by simpa [mcs] using mc_len k, fun j v hv => ?_⟩
  rw [Addr.add_mk, cell_of put_self, Nat.zero_add]
  simpa [mcs] using hv
theorem Reduce_spec {x : Raw} {rows : List Raw} {m : Mon} (t : Top h x rows m) (hk : rright x rows = true → ∀ y h', Got h' (red [] (partsOf x rows)) y → Step [] h [] h' → K (.tuple #[.agg (mc y).toArray, .int .i64 0]) h')
    (hx : rright x rows = false → ∀ h', Step [] h [] h' → K (.tuple #[.agg (mc nl).toArray, .int .i64 5]) h') : HC P moniker_Reduce.n #[.agg (mc x).toArray] h K := by
  have k := t.deep.ok
  refine moniker_Reduce.hc ?_
  unfold moniker_Reduce
  intro b0 hb0 b1 hb1
  obtain ⟨H, hH⟩ : ∃ H, H = (h.put b0 (.cells (mc x).toArray T.api_Moniker (0, 0))).put b1 (.cells zMon T.api_Moniker (0, 0)) := ⟨_, rfl⟩
  have n10 : b0 ≠ b1 := fun q => by rw [← q, put_self] at hb1; cases hb1
  have f1 : h b1 = none := by rw [put_ne (Ne.symm n10)] at hb1; exact hb1
  have S0 : Step [] h [b1] H := by rw [hH]; exact (Step.put (.inr hb0)).trans (Step.new hb1)
  have M : MB H b0 x := by rw [hH]; show _ = _; rw [put_ne n10, put_self]
  have Z : H b1 = some (.cells zMon T.api_Moniker (0, 0)) := by rw [hH, put_self]
  rw [← hH]
  refine ⟨_, M.all k, Check_spec (t.step S0.forget0) fun h0 s0 => ⟨_, rfl, ?_⟩⟩
  have Z0 := s0.keepB0 Z
  have S1 : Step [] h [b1] h0 := S0.trans (by simpa using s0.frame [b1])
  unfold moniker_Reduce.k4
  cases hr : rright x rows with
  | false =>
    rw [if_neg (by simp)]
    refine bcT rfl ?_
    unfold moniker_Reduce.k0
    exact ⟨trivial, rfl, by simp [cellish], retM2 (y := nl) (C := fun v hh => K (.tuple #[v, .int .i64 5]) hh) nl_ok Z0 (hx hr _ (S1.trans (Step.put (.inl (by simp)))).forget0)⟩
  | true =>
    rw [if_pos rfl]
    refine bcF rfl ?_
    unfold moniker_Reduce.k3
    refine ⟨_, (M.step s0).all k, ⟨by simpa using mc_len k, mc_cellish, trivial⟩, fun b2 hb2 => ?_⟩
    have hle := parts_len t hr
    have hp := prt_right hr
    have S2 : Step [] h0 [] (h0.put b2 (.cells (Array.mk (catA (mc x).toArray [])) T.api_Moniker (0, 0))) := Step.put (.inr hb2)
    refine reduce_spec (ts := [(x, rows)]) (src_one k) rfl (by omega) (fun q hq => ?_) (fun q hq => ?_) fun a c o h1 s1 ok1 st1 => ⟨_, _, _, rfl, ?_⟩
    · simp at hq; subst hq
      exact ⟨m, (t.step S1.forget0).step S2⟩
    · simp at hq; subst hq
      show (prt x rows).length ≤ 1000
      rw [hp]; omega
    have eR : redAll [(x, rows)] = red [] (partsOf x rows) := by rw [← hp]; rfl
    rw [eR] at s1 ok1 ⊢
    have st1 : Step [] h0 o h1 := S2.trans st1
    have lr : (red [] (partsOf x rows)).length ≤ 64 := by
      have := red_len (out := []) (l := partsOf x rows)
      simp at this; omega
    have nb : b1 ∉ o := fun q => by
      rcases st1.own b1 q with z | z
      · cases z
      · rw [Z0] at z; cases z
    have toH : ∀ {h' : Hp}, Step [b1] h [b1] h' → Step [] h [] h' := fun s => ⟨fun q hq hn => s.keep q hq (by simp; exact fun z => hq (by rw [z]; exact f1)), by simp, s.dom⟩
    have S3 : ∀ {h2 : Hp}, Step [] h1 [] h2 → Step [b1] h [b1] h2 := fun {h2} s2 => by
      have s3 : Step [] h0 [] h2 := st1.forget0.trans s2
      have : Step [] h [b1] h2 := S1.trans (by simpa using s3.frame [b1])
      exact ⟨fun q hq hn => this.keep q hq (by simp), fun q hq => .inl hq, this.dom⟩
    unfold moniker_Reduce.k2
    refine gOf_got s1.src ok1 (fun _ h2 s2 => ?_) fun q => by omega
    refine ⟨_, _, rfl, by simpa using mc_len (ofRaw_ok ok1), ?_⟩
    unfold moniker_Reduce.k1
    exact retGot (h := h) (C := fun v hh => K (.tuple #[v, .int .i64 0]) hh) ok1 (red_rp (by simp) (parts_rp hr)) lr (s2.keepB0 (st1.keepB0 Z0)) (s1.keep fun q hq => s2.keep q (s1.mem q hq) (by simp)) nb (S3 s2) fun y h' g st => hk hr y h' g (toH st)
end Go.Den.Mon
end

section
set_option linter.unusedVariables false
set_option maxRecDepth 100000
namespace Go.Den.Mon
open Go Go.Den
variable {h : Hp} {K : Value → Hp → Prop}
def anti : Raw := ⟨4, z16, ⟨#[]⟩, 0, none, 0, 0⟩
theorem anti_ok : anti.Ok := ⟨z16_is, by show (0 : Nat) < _; omega, by show _ ≤ (4 : Int) ∧ (4 : Int) < _; omega, by show (0 : Nat) ≤ _; omega⟩
theorem anti_rp : rpart anti = true := by
  unfold rpart
  rw [if_neg (by show ¬ (4 : Int) = 1; omega), if_neg (by show ¬ (4 : Int) = 2; omega), if_neg (by show ¬ (4 : Int) = 3; omega), if_pos (by show (4 : Int) = 4; omega)]
  exact decide_eq_true ⟨rfl, rfl, rfl, rfl⟩
end Go.Den.Mon
end

section
set_option linter.unusedVariables false
set_option maxRecDepth 100000
namespace Go.Den.Mon
open Go Go.Den
variable {h : Hp} {K : Value → Hp → Prop}
def hex2 (x : Nat) : List UInt8 := [hexc (x / 16), hexc (x % 16)]
def sep (i : Nat) : List UInt8 := if dash i then [45] else []
def pr (g : List Nat) : Nat → List UInt8
  | 0 => [123]
  | k + 1 => pr g k ++ sep k ++ hex2 (g.getD k 0)
def prL (g : List Nat) : List UInt8 := pr g 16 ++ [125]
def prS (g : List Nat) : ByteArray := ⟨(prL g).toArray⟩
theorem pr_len {g : List Nat} : ∀ (k : Nat), (pr g k).length ≤ 1 + 3 * k
  | 0 => by simp [pr]
  | k + 1 => by
    have := pr_len (g := g) k
    have h2 : (sep k).length ≤ 1 := by unfold sep; split <;> simp
    simp only [pr, List.length_append, hex2, List.length_cons, List.length_nil]; omega
theorem bits15 : ((List.range 256).all fun n => bits .and .u8 (n : Int) 15 == ((n % 16 : Nat) : Int)) = true := by decide +kernel
theorem bits_15 {n : Nat} (hn : n < 256) : bits .and .u8 (n : Int) 15 = ((n % 16 : Nat) : Int) := by simpa using List.all_eq_true.1 bits15 n (List.mem_range.2 hn)
theorem fdiv16 {n : Nat} : Int.fdiv (n : Int) (2 ^ Min.min ((4 : Int).toNat) 8) = ((n / 16 : Nat) : Int) := by
  rw [show ((2 : Int) ^ Min.min ((4 : Int).toNat) 8) = 16 from rfl, Int.fdiv_eq_ediv_of_nonneg _ (by omega)]; omega
structure Wr (h0 h : Hp) (l : List UInt8) (v : Value) : Prop where
  row : ∃ a c o, v = .slice a l.length c ∧ SlAt h T.uint8 1 AnyV a l.length c (bvs l) o ∧ Step [] h0 o h
theorem Wr.push {h0 h : Hp} {l ws : List UInt8} {a : Option Addr} {len cap b n : Nat} {cs : Array Value} {K : Value → Hp → Prop} (w : Wr h0 h l (.slice a len cap)) (hb : h b = none) (hl : l.length ≤ 100) (hw : ws.length = n) (hn : n ≤ 2) (hcs : cs = (bvs ws).toArray)
    (hk : ∀ a' cap' h', Wr h0 h' (l ++ ws) (.slice a' (len + n) cap') → K (.slice a' (len + n) cap') h') :
    wpSem P (Builtin.append_ #[T.sl_uint8, T.sl_uint8] T.sl_uint8 #[.slice a len cap, .slice (some ⟨b, 0, none⟩) n n]) K (h.put b (.cells cs T.uint8 (0, 0))) := by
  obtain ⟨a0, c0, o, e, s, st⟩ := w.row
  cases e
  subst hcs
  refine pushB s hb hw (by omega) fun a' cap' o' h' s1 st1 => hk a' cap' h' ⟨a', cap', o', ?_, ?_, st.trans st1⟩
  · rw [List.length_append, hw]
  · rw [List.length_append, hw]; exact s1
theorem Wr.str {h0 h : Hp} {l : List UInt8} {a : Option Addr} {len cap : Nat} {K : Value → Hp → Prop} (w : Wr h0 h l (.slice a len cap)) (hk : Step [] h0 [] h → K (.string ⟨l.toArray⟩) h) : wpSem P (convDark T.sl_uint8 T.string (.slice a len cap)) K h := by
  obtain ⟨a0, c0, o, e, s, st⟩ := w.row
  cases e
  exact bytesStr_wp s.src (hk st.forget0)
abbrev rowI (H : Hp) (g : List Nat) : List Value → Hp → Prop := fun vs hh => ∃ (v : Value) (k : Nat), vs = [v, .int .i64 (k : Int)] ∧ k ≤ 16 ∧ Wr H hh (pr g k) v
abbrev rowX : List Value → Hp → Nat := fun vs _ => match vs with | [_, .int _ i] => 16 - i.toNat | _ => 0
theorem rowX_lt {v v' : Value} {k : Nat} {h h' : Hp} (hk : k < 16) : rowX [v, .int .i64 ((k + 1 : Nat) : Int)] h < rowX [v', .int .i64 (k : Int)] h' := by
  show 16 - ((k + 1 : Nat) : Int).toNat < 16 - (k : Int).toNat
  omega
theorem gPrint_spec {g : List Nat} (hg : isG g) (hk : ∀ h', Step [] h [] h' → K (.string (prS g)) h') : HC P guid_Print.n #[.agg (gcs g)] h K := by
  refine guid_Print.hc ?_
  unfold guid_Print
  intro b0 hb0 b1 hb1
  obtain ⟨n10, hb1'⟩ := put_none hb1
  obtain ⟨H, hH⟩ : ∃ H, H = h.put b0 (.cells (gcs g) T.api_Guid (0, 0)) := ⟨_, rfl⟩
  rw [← hH] at hb1 ⊢
  have B0 : H b0 = some (.cells (gcs g) T.api_Guid (0, 0)) := by rw [hH, put_self]
  have st0 : Step [] h [] H := by rw [hH]; exact Step.put (.inr hb0)
  have hsz : (gcs g).size = 16 := by rw [gcs_size, hg.1]
  have W0 : Wr H (H.put b1 (.cells #[.int .u8 123] T.uint8 (0, 0))) (pr g 0) (.slice (some ⟨b1, 0, none⟩) 1 1) :=
    ⟨_, _, [b1], rfl, .some (pre := []) (rest := []) (post := []) (by rw [put_self]; rfl) rfl rfl rfl (Nat.le_refl 1) (by simp), Step.new hb1⟩
  refine ⟨gcs g, cellsAt_blk (by rw [put_ne (Ne.symm n10)]; exact B0) hsz, rowI H g, rowX, ⟨_, 0, rfl, by omega, W0⟩, ?_⟩
  rintro h0 a0 n0 c0 n1 ⟨v, k, he, hk16, W⟩
  cases he
  have hpl := pr_len (g := g) k
  refine bcase_intro (fun hc => ?_) fun hc => ?_
  · have hc : k < 16 := by have := of_decide_eq_true hc; omega
    have hlt : k < g.length := by rw [hg.1]; exact hc
    have hx : g[k] < 256 := hg.2 _ (List.getElem_mem _)
    have hgd : g.getD k 0 = g[k] := by simp [List.getD, hlt]
    unfold guid_Print.k5
    refine ⟨by omega, by omega, (g[k] : Int), by rw [Int.toNat_natCast, Nat.mul_one, gcs_get]; simp [hlt], dash_spec ⟨_, rfl, ?_⟩⟩
    have w1 : IntKind.wrap .i64 ((k : Int) + 1) = ((k + 1 : Nat) : Int) := wrapN (by omega) (by omega)
    unfold guid_Print.k4
    refine bcase_intro (fun hd => ?_) fun hd => ?_
    · unfold guid_Print.k2
      intro b3 hb3
      refine W.push (ws := [45]) hb3 (by omega) rfl (by omega) rfl fun a1 c1 h2 W2 => ⟨_, _, _, rfl, ?_⟩
      unfold guid_Print.k1
      rw [fdiv16, bits_15 hx]
      refine ⟨by omega, by omega, _, by rw [Int.toNat_natCast]; exact hex_get (by omega), by omega, _, by rw [Int.toNat_natCast]; exact hex_get (by omega), ?_⟩
      intro b6 hb6
      refine W2.push (ws := hex2 g[k]) hb6 (by simp; omega) rfl (by omega) rfl fun a2 c2 h3 W3 => ⟨_, _, _, rfl, ?_⟩
      unfold guid_Print.k0
      rw [w1]
      refine ⟨⟨_, k + 1, rfl, by omega, ?_⟩, rowX_lt hc⟩
      have e : pr g (k + 1) = pr g k ++ [45] ++ hex2 g[k] := by simp only [pr, sep, hd, if_true, hgd]
      rw [e]; exact W3
    · unfold guid_Print.k3
      rw [fdiv16, bits_15 hx]
      refine ⟨by omega, by omega, _, by rw [Int.toNat_natCast]; exact hex_get (by omega), by omega, _, by rw [Int.toNat_natCast]; exact hex_get (by omega), ?_⟩
      intro b6 hb6
      refine W.push (ws := hex2 g[k]) hb6 (by omega) rfl (by omega) rfl fun a2 c2 h3 W3 => ⟨_, _, _, rfl, ?_⟩
      unfold guid_Print.k0
      rw [w1]
      refine ⟨⟨_, k + 1, rfl, by omega, ?_⟩, rowX_lt hc⟩
      have e : pr g (k + 1) = pr g k ++ hex2 g[k] := by simp only [pr, sep, hd, hgd]; simp
      rw [e]; exact W3
  · have hc : k = 16 := by have := of_decide_eq_false hc; omega
    subst hc
    unfold guid_Print.k7
    intro b10 hb10
    refine W.push (ws := [125]) hb10 (by omega) rfl (by omega) rfl fun a1 c1 h2 W2 => ⟨_, _, _, rfl, ?_⟩
    unfold guid_Print.k6
    exact W2.str fun st => ⟨_, rfl, hk _ (st0.trans st)⟩
end Go.Den.Mon
end

section
set_option linter.unusedVariables false
namespace Go.Proofs
open Go.Shelf
def Tryz.laysC245_ren : Go.Shelf.Ren := ⟨fun | 245 => 71 | 279 => 86 | 280 => 87 | 281 => 88 | 282 => 89 | 316 => 109 | 171 => 111 | 205 => 110 | 243 => 125 | 246 => 132 | 283 => 102 | 284 => 103 | 285 => 104 | 286 => 105 | 129 => 121 | 317 => 120 | 318 => 122 | 319 => 123 | 320 => 124 | 337 => 130 | 338 => 131 | n => n, fun | 9 => 9 | 3 => 3 | 75 => 125 | 167 => 159 | 4 => 4 | 168 => 162 | 210 => 183 | 37 => 134 | 0 => 0 | 127 => 158 | 145 => 198 | 143 => 196 | 2 => 2 | 171 => 174 | 53 => 36 | 5 => 5 | 173 => 176 | 212 => 193 | 51 => 69 | 20 => 20 | 213 => 194 | 46 => 146 | 232 => 213 | 233 => 214 | 80 => 145 | n => n, fun | 15 => 1 | 16 => 2 | 17 => 4 | 18 => 7 | 19 => 8 | n => n⟩
theorem Tryz.laysC245 : Go.Proofs.LaysC.n245 Tryz.prog Tryz.laysC245_ren := {
  mixed := by kernel_rfl
  f129 := Tryz.func121.trans (congrArg some (by kernel_rfl))
  f171 := Tryz.func111.trans (congrArg some (by kernel_rfl))
  f205 := Tryz.func110.trans (congrArg some (by kernel_rfl))
  f243 := Tryz.func125.trans (congrArg some (by kernel_rfl))
  f245 := Tryz.func71.trans (congrArg some (by kernel_rfl))
  f246 := Tryz.func132.trans (congrArg some (by kernel_rfl))
  f279 := Tryz.func86.trans (congrArg some (by kernel_rfl))
  f280 := Tryz.func87.trans (congrArg some (by kernel_rfl))
  f281 := Tryz.func88.trans (congrArg some (by kernel_rfl))
  f282 := Tryz.func89.trans (congrArg some (by kernel_rfl))
  f283 := Tryz.func102.trans (congrArg some (by kernel_rfl))
  f284 := Tryz.func103.trans (congrArg some (by kernel_rfl))
  f285 := Tryz.func104.trans (congrArg some (by kernel_rfl))
  f286 := Tryz.func105.trans (congrArg some (by kernel_rfl))
  f316 := Tryz.func109.trans (congrArg some (by kernel_rfl))
  f317 := Tryz.func120.trans (congrArg some (by kernel_rfl))
  f318 := Tryz.func122.trans (congrArg some (by kernel_rfl))
  f319 := Tryz.func123.trans (congrArg some (by kernel_rfl))
  f320 := Tryz.func124.trans (congrArg some (by kernel_rfl))
  f337 := Tryz.func130.trans (congrArg some (by kernel_rfl))
  f338 := Tryz.func131.trans (congrArg some (by kernel_rfl))
  t0 := Tryz.underlying0
  a0 := Tryz.isAgg0
  z0 := Tryz.sizeOf0
  v0 := Tryz.zeroValue0
  t2 := Tryz.underlying2
  a2 := Tryz.isAgg2
  z2 := Tryz.sizeOf2
  v2 := Tryz.zeroValue2
  t3 := Tryz.underlying3
  a3 := Tryz.isAgg3
  z3 := Tryz.sizeOf3
  v3 := Tryz.zeroValue3
  t4 := Tryz.underlying4
  a4 := Tryz.isAgg4
  z4 := Tryz.sizeOf4
  v4 := Tryz.zeroValue4
  t5 := Tryz.underlying5
  a5 := Tryz.isAgg5
  z5 := Tryz.sizeOf5
  v5 := Tryz.zeroValue5
  t9 := Tryz.underlying9
  a9 := Tryz.isAgg9
  z9 := Tryz.sizeOf9
  v9 := Tryz.zeroValue9
  t20 := Tryz.underlying20
  a20 := Tryz.isAgg20
  z20 := Tryz.sizeOf20
  v20 := Tryz.zeroValue20
  t37 := Tryz.underlying134
  a37 := Tryz.isAgg134
  z37 := Tryz.sizeOf134
  v37 := Tryz.zeroValue134
  t46 := Tryz.underlying146
  a46 := Tryz.isAgg146
  z46 := Tryz.sizeOf146
  v46 := Tryz.zeroValue146
  t51 := Tryz.underlying69
  a51 := Tryz.isAgg69
  z51 := Tryz.sizeOf69
  v51 := Tryz.zeroValue69
  t53 := Tryz.underlying36
  a53 := Tryz.isAgg36
  z53 := Tryz.sizeOf36
  v53 := Tryz.zeroValue36
  t75 := Tryz.underlying125
  a75 := Tryz.isAgg125
  z75 := Tryz.sizeOf125
  v75 := Tryz.zeroValue125
  t127 := Tryz.underlying158
  a127 := Tryz.isAgg158
  z127 := Tryz.sizeOf158
  v127 := Tryz.zeroValue158
  t143 := Tryz.underlying196
  a143 := Tryz.isAgg196
  z143 := Tryz.sizeOf196
  v143 := Tryz.zeroValue196
  t145 := Tryz.underlying198
  a145 := Tryz.isAgg198
  z145 := Tryz.sizeOf198
  v145 := Tryz.zeroValue198
  t167 := Tryz.underlying159
  a167 := Tryz.isAgg159
  z167 := Tryz.sizeOf159
  v167 := Tryz.zeroValue159
  t168 := Tryz.underlying162
  a168 := Tryz.isAgg162
  z168 := Tryz.sizeOf162
  v168 := Tryz.zeroValue162
  t171 := Tryz.underlying174
  a171 := Tryz.isAgg174
  z171 := Tryz.sizeOf174
  v171 := Tryz.zeroValue174
  t173 := Tryz.underlying176
  a173 := Tryz.isAgg176
  z173 := Tryz.sizeOf176
  v173 := Tryz.zeroValue176
  t210 := Tryz.underlying183
  a210 := Tryz.isAgg183
  z210 := Tryz.sizeOf183
  v210 := Tryz.zeroValue183
  t212 := Tryz.underlying193
  a212 := Tryz.isAgg193
  z212 := Tryz.sizeOf193
  v212 := Tryz.zeroValue193
  t213 := Tryz.underlying194
  a213 := Tryz.isAgg194
  z213 := Tryz.sizeOf194
  t232 := Tryz.underlying213
  a232 := Tryz.isAgg213
  z232 := Tryz.sizeOf213
  v232 := Tryz.zeroValue213
  t233 := Tryz.underlying214
  a233 := Tryz.isAgg214
  z233 := Tryz.sizeOf214
  v233 := Tryz.zeroValue214
  g15 := by kernel_rfl
  g16 := by kernel_rfl
  g17 := by kernel_rfl
  g18 := by kernel_rfl
  g19 := by kernel_rfl
  t80 := Tryz.underlying145
  a80 := Tryz.isAgg145
  z80 := Tryz.sizeOf145
  v80 := Tryz.zeroValue145
  i0 := by kernel_rfl
  i2 := by kernel_rfl
  i3 := by kernel_rfl
  i4 := by kernel_rfl
  i5 := by kernel_rfl
  i9 := by kernel_rfl
  i20 := by kernel_rfl
  i37 := by kernel_rfl
  i46 := by kernel_rfl
  i51 := by kernel_rfl
  i53 := by kernel_rfl
  i75 := by kernel_rfl
  i80 := by kernel_rfl
  i127 := by kernel_rfl
  i143 := by kernel_rfl
  i145 := by kernel_rfl
  i167 := by kernel_rfl
  i168 := by kernel_rfl
  i171 := by kernel_rfl
  i173 := by kernel_rfl
  i210 := by kernel_rfl
  i212 := by kernel_rfl
  i232 := by kernel_rfl
  i233 := by kernel_rfl
  m15 := by kernel_rfl
  m16 := by kernel_rfl
  m17 := by kernel_rfl
  m18 := by kernel_rfl
  m19 := by kernel_rfl
  c0 := by kernel_rfl
  c2 := by kernel_rfl
  c3 := by kernel_rfl
  c4 := by kernel_rfl
  c5 := by kernel_rfl
  c9 := by kernel_rfl
  c20 := by kernel_rfl
  c37 := by kernel_rfl
  c46 := by kernel_rfl
  c51 := by kernel_rfl
  c53 := by kernel_rfl
  c75 := by kernel_rfl
  c80 := by kernel_rfl
  c127 := by kernel_rfl
  c143 := by kernel_rfl
  c145 := by kernel_rfl
  c167 := by kernel_rfl
  c168 := by kernel_rfl
  c171 := by kernel_rfl
  c173 := by kernel_rfl
  c210 := by kernel_rfl
  c212 := by kernel_rfl
  c213 := by kernel_rfl
  c232 := by kernel_rfl
  c233 := by kernel_rfl }
open Go.RowKit in
theorem Tryz.strconv_toError_syntax (fn s : ByteArray) (base bits : Int) (ev : Value) (w : World) (hlim : s.size ≤ 281474976710656) (hv : w.cell? ⟨1, 0, none⟩ = some ev) (hev : ev = .nilIface ∨ ∃ te pe, ev = .iface te pe) :
    Calls Tryz.prog 71 #[.string fn, .string s, .int .i64 base, .int .i64 bits, .iface 159 (.int .i64 2)] w fun e w' => ∃ N, e = .returned (.iface 162 (.pointer (some ⟨N, 0, none⟩))) ∧ w.heap.size ≤ N ∧ w'.heap[N]? = some (.cells #[.string fn, .string s, ev] 183 (0, 0)) ∧ Below w.heap.size w w' := Any.strconv_toError_syntax Tryz.laysC245 fn s base bits ev w hlim hv hev
def Tryz.lays105_ren : Go.Shelf.Ren := ⟨fun | 105 => 64 | 212 => 80 | 99 => 81 | 165 => 72 | 166 => 62 | 170 => 82 | 169 => 65 | 263 => 106 | 264 => 107 | 206 => 108 | 240 => 78 | 241 => 90 | 276 => 101 | 277 => 112 | n => n, fun | 9 => 9 | 3 => 3 | 4 => 4 | 20 => 20 | 0 => 0 | 46 => 146 | 109 => 155 | 5 => 5 | 72 => 136 | 76 => 141 | 51 => 69 | 146 => 178 | 53 => 36 | 148 => 180 | 70 => 133 | 37 => 134 | 75 => 125 | 127 => 158 | 164 => 171 | 80 => 145 | n => n, fun | n => n⟩
theorem Tryz.lays105 : Go.Proofs.Lays.n105 Tryz.prog Tryz.lays105_ren := {
  mixed := by kernel_rfl
  f99 := Tryz.func81.trans (congrArg some (by kernel_rfl))
  f105 := Tryz.func64.trans (congrArg some (by kernel_rfl))
  f165 := Tryz.func72.trans (congrArg some (by kernel_rfl))
  f166 := Tryz.func62.trans (congrArg some (by kernel_rfl))
  f169 := Tryz.func65.trans (congrArg some (by kernel_rfl))
  f170 := Tryz.func82.trans (congrArg some (by kernel_rfl))
  f206 := Tryz.func108.trans (congrArg some (by kernel_rfl))
  f212 := Tryz.func80.trans (congrArg some (by kernel_rfl))
  f240 := Tryz.func78.trans (congrArg some (by kernel_rfl))
  f241 := Tryz.func90.trans (congrArg some (by kernel_rfl))
  f263 := Tryz.func106.trans (congrArg some (by kernel_rfl))
  f264 := Tryz.func107.trans (congrArg some (by kernel_rfl))
  f276 := Tryz.func101.trans (congrArg some (by kernel_rfl))
  f277 := Tryz.func112.trans (congrArg some (by kernel_rfl))
  t0 := Tryz.underlying0
  a0 := Tryz.isAgg0
  z0 := Tryz.sizeOf0
  v0 := Tryz.zeroValue0
  t3 := Tryz.underlying3
  a3 := Tryz.isAgg3
  z3 := Tryz.sizeOf3
  v3 := Tryz.zeroValue3
  t4 := Tryz.underlying4
  a4 := Tryz.isAgg4
  z4 := Tryz.sizeOf4
  v4 := Tryz.zeroValue4
  t5 := Tryz.underlying5
  a5 := Tryz.isAgg5
  z5 := Tryz.sizeOf5
  v5 := Tryz.zeroValue5
  t9 := Tryz.underlying9
  a9 := Tryz.isAgg9
  z9 := Tryz.sizeOf9
  v9 := Tryz.zeroValue9
  t20 := Tryz.underlying20
  a20 := Tryz.isAgg20
  z20 := Tryz.sizeOf20
  v20 := Tryz.zeroValue20
  t37 := Tryz.underlying134
  a37 := Tryz.isAgg134
  z37 := Tryz.sizeOf134
  v37 := Tryz.zeroValue134
  t46 := Tryz.underlying146
  a46 := Tryz.isAgg146
  z46 := Tryz.sizeOf146
  v46 := Tryz.zeroValue146
  t51 := Tryz.underlying69
  a51 := Tryz.isAgg69
  z51 := Tryz.sizeOf69
  v51 := Tryz.zeroValue69
  t53 := Tryz.underlying36
  a53 := Tryz.isAgg36
  z53 := Tryz.sizeOf36
  v53 := Tryz.zeroValue36
  t70 := Tryz.underlying133
  a70 := Tryz.isAgg133
  z70 := Tryz.sizeOf133
  v70 := Tryz.zeroValue133
  t72 := Tryz.underlying136
  a72 := Tryz.isAgg136
  z72 := Tryz.sizeOf136
  v72 := Tryz.zeroValue136
  t75 := Tryz.underlying125
  a75 := Tryz.isAgg125
  z75 := Tryz.sizeOf125
  v75 := Tryz.zeroValue125
  t76 := Tryz.underlying141
  a76 := Tryz.isAgg141
  z76 := Tryz.sizeOf141
  v76 := Tryz.zeroValue141
  t109 := Tryz.underlying155
  a109 := Tryz.isAgg155
  z109 := Tryz.sizeOf155
  v109 := Tryz.zeroValue155
  t127 := Tryz.underlying158
  a127 := Tryz.isAgg158
  z127 := Tryz.sizeOf158
  v127 := Tryz.zeroValue158
  t146 := Tryz.underlying178
  a146 := Tryz.isAgg178
  z146 := Tryz.sizeOf178
  v146 := Tryz.zeroValue178
  t148 := Tryz.underlying180
  a148 := Tryz.isAgg180
  z148 := Tryz.sizeOf180
  v148 := Tryz.zeroValue180
  t164 := Tryz.underlying171
  a164 := Tryz.isAgg171
  z164 := Tryz.sizeOf171
  v164 := Tryz.zeroValue171 }
theorem Tryz.Builder_Extra_105 : Builder.Extra Tryz.prog Tryz.lays105_ren := {
  sizeBuilder := by kernel_rfl
  liesBuilder := by kernel_rfl
  t5 := Tryz.underlying5
  a5 := Tryz.isAgg5
  z5 := Tryz.sizeOf5
  v5 := Tryz.zeroValue5
  infoByte := by kernel_rfl
  cellsByte := by kernel_rfl
  sizeByte := by kernel_rfl
  neB5 := by decide }
open Go.RowKit Go.Lib in
theorem Tryz.strings_Repeat (s : ByteArray) (c : Nat) (w : World) (hc : c ≤ 9223372036854775807) (hlen : s.size * c ≤ 140737488355328) :
    Calls Tryz.prog 64 #[.string s, .int .i64 c] w fun e w' => e = .returned (.string ⟨(Lib.repeatL s.data.toList c).toArray⟩) ∧ Below w.heap.size w w' := Any.strings_Repeat Tryz.lays105 Tryz.Builder_Extra_105 s c w hc hlen
def Tryz.lays159_ren : Go.Shelf.Ren := ⟨fun | 159 => 55 | 165 => 72 | 166 => 62 | 167 => 61 | 169 => 65 | 230 => 73 | 204 => 74 | 240 => 78 | 241 => 90 | 197 => 91 | 118 => 92 | 168 => 93 | 270 => 94 | 262 => 95 | 276 => 101 | 277 => 112 | 260 => 113 | 242 => 114 | 313 => 115 | 278 => 126 | 274 => 127 | 275 => 128 | n => n, fun | 9 => 9 | 4 => 4 | 3 => 3 | 5 => 5 | 72 => 136 | 0 => 0 | 76 => 141 | 75 => 125 | 107 => 153 | 70 => 133 | 20 => 20 | 37 => 134 | 127 => 158 | 21 => 21 | 105 => 165 | 164 => 171 | 162 => 189 | 203 => 187 | 119 => 199 | 46 => 146 | 139 => 202 | 138 => 201 | 51 => 69 | 160 => 203 | 208 => 212 | 206 => 210 | 80 => 145 | n => n, fun | 13 => 3 | 3 => 5 | 4 => 6 | n => n⟩
theorem Tryz.lays159 : Go.Proofs.Lays.n159 Tryz.prog Tryz.lays159_ren := {
  mixed := by kernel_rfl
  f118 := Tryz.func92.trans (congrArg some (by kernel_rfl))
  f159 := Tryz.func55.trans (congrArg some (by kernel_rfl))
  f165 := Tryz.func72.trans (congrArg some (by kernel_rfl))
  f166 := Tryz.func62.trans (congrArg some (by kernel_rfl))
  f167 := Tryz.func61.trans (congrArg some (by kernel_rfl))
  f168 := Tryz.func93.trans (congrArg some (by kernel_rfl))
  f169 := Tryz.func65.trans (congrArg some (by kernel_rfl))
  f197 := Tryz.func91.trans (congrArg some (by kernel_rfl))
  f204 := Tryz.func74.trans (congrArg some (by kernel_rfl))
  f230 := Tryz.func73.trans (congrArg some (by kernel_rfl))
  f240 := Tryz.func78.trans (congrArg some (by kernel_rfl))
  f241 := Tryz.func90.trans (congrArg some (by kernel_rfl))
  f242 := Tryz.func114.trans (congrArg some (by kernel_rfl))
  f260 := Tryz.func113.trans (congrArg some (by kernel_rfl))
  f262 := Tryz.func95.trans (congrArg some (by kernel_rfl))
  f270 := Tryz.func94.trans (congrArg some (by kernel_rfl))
  f274 := Tryz.func127.trans (congrArg some (by kernel_rfl))
  f275 := Tryz.func128.trans (congrArg some (by kernel_rfl))
  f276 := Tryz.func101.trans (congrArg some (by kernel_rfl))
  f277 := Tryz.func112.trans (congrArg some (by kernel_rfl))
  f278 := Tryz.func126.trans (congrArg some (by kernel_rfl))
  f313 := Tryz.func115.trans (congrArg some (by kernel_rfl))
  t0 := Tryz.underlying0
  a0 := Tryz.isAgg0
  z0 := Tryz.sizeOf0
  v0 := Tryz.zeroValue0
  t3 := Tryz.underlying3
  a3 := Tryz.isAgg3
  z3 := Tryz.sizeOf3
  v3 := Tryz.zeroValue3
  t4 := Tryz.underlying4
  a4 := Tryz.isAgg4
  z4 := Tryz.sizeOf4
  v4 := Tryz.zeroValue4
  t5 := Tryz.underlying5
  a5 := Tryz.isAgg5
  z5 := Tryz.sizeOf5
  v5 := Tryz.zeroValue5
  t9 := Tryz.underlying9
  a9 := Tryz.isAgg9
  z9 := Tryz.sizeOf9
  v9 := Tryz.zeroValue9
  t20 := Tryz.underlying20
  a20 := Tryz.isAgg20
  z20 := Tryz.sizeOf20
  v20 := Tryz.zeroValue20
  t21 := Tryz.underlying21
  a21 := Tryz.isAgg21
  z21 := Tryz.sizeOf21
  v21 := Tryz.zeroValue21
  t37 := Tryz.underlying134
  a37 := Tryz.isAgg134
  z37 := Tryz.sizeOf134
  v37 := Tryz.zeroValue134
  t46 := Tryz.underlying146
  a46 := Tryz.isAgg146
  z46 := Tryz.sizeOf146
  v46 := Tryz.zeroValue146
  t51 := Tryz.underlying69
  a51 := Tryz.isAgg69
  z51 := Tryz.sizeOf69
  v51 := Tryz.zeroValue69
  t70 := Tryz.underlying133
  a70 := Tryz.isAgg133
  z70 := Tryz.sizeOf133
  v70 := Tryz.zeroValue133
  t72 := Tryz.underlying136
  a72 := Tryz.isAgg136
  z72 := Tryz.sizeOf136
  v72 := Tryz.zeroValue136
  t75 := Tryz.underlying125
  a75 := Tryz.isAgg125
  z75 := Tryz.sizeOf125
  v75 := Tryz.zeroValue125
  t76 := Tryz.underlying141
  a76 := Tryz.isAgg141
  z76 := Tryz.sizeOf141
  v76 := Tryz.zeroValue141
  t105 := Tryz.underlying165
  a105 := Tryz.isAgg165
  z105 := Tryz.sizeOf165
  v105 := Tryz.zeroValue165
  t107 := Tryz.underlying153
  a107 := Tryz.isAgg153
  z107 := Tryz.sizeOf153
  v107 := Tryz.zeroValue153
  t119 := Tryz.underlying199
  a119 := Tryz.isAgg199
  z119 := Tryz.sizeOf199
  t127 := Tryz.underlying158
  a127 := Tryz.isAgg158
  z127 := Tryz.sizeOf158
  v127 := Tryz.zeroValue158
  t138 := Tryz.underlying201
  a138 := Tryz.isAgg201
  z138 := Tryz.sizeOf201
  v138 := Tryz.zeroValue201
  t139 := Tryz.underlying202
  a139 := Tryz.isAgg202
  z139 := Tryz.sizeOf202
  v139 := Tryz.zeroValue202
  t160 := Tryz.underlying203
  a160 := Tryz.isAgg203
  z160 := Tryz.sizeOf203
  v160 := Tryz.zeroValue203
  t162 := Tryz.underlying189
  a162 := Tryz.isAgg189
  z162 := Tryz.sizeOf189
  v162 := Tryz.zeroValue189
  t164 := Tryz.underlying171
  a164 := Tryz.isAgg171
  z164 := Tryz.sizeOf171
  v164 := Tryz.zeroValue171
  t203 := Tryz.underlying187
  a203 := Tryz.isAgg187
  z203 := Tryz.sizeOf187
  v203 := Tryz.zeroValue187
  t206 := Tryz.underlying210
  a206 := Tryz.isAgg210
  z206 := Tryz.sizeOf210
  v206 := Tryz.zeroValue210
  t208 := Tryz.underlying212
  a208 := Tryz.isAgg212
  z208 := Tryz.sizeOf212
  v208 := Tryz.zeroValue212
  g3 := by kernel_rfl
  g4 := by kernel_rfl
  g13 := by kernel_rfl }
theorem Tryz.extra159 : Builder.Extra Tryz.prog Tryz.lays159_ren := {
  sizeBuilder := by kernel_rfl
  liesBuilder := by kernel_rfl
  t5 := Tryz.underlying5
  a5 := Tryz.isAgg5
  z5 := Tryz.sizeOf5
  v5 := Tryz.zeroValue5
  infoByte := by kernel_rfl
  cellsByte := by kernel_rfl
  sizeByte := by kernel_rfl
  neB5 := by decide }
end Go.Proofs
end

section
set_option linter.unusedVariables false
set_option maxRecDepth 100000
namespace Go.Den.Mon
open Go Go.Den
variable {h h' : Hp} {K : Value → Hp → Prop}
theorem lower_ascii {s : ByteArray} (hs : s.size ≤ 1000) (ha : ∀ b ∈ s.data.toList, b.toNat < 128) (hk : ∀ h', Step [] h [] h' → K (.string ⟨(Lib.toLowerA s.data.toList).toArray⟩) h') : HC P strings_ToLower.n #[.string s] h K :=
  HC_of_calls fun w hw => (Go.Proofs.Any.strings_ToLower_ascii Go.Proofs.Tryz.lays159 Go.Proofs.Tryz.extra159 s w (by omega) fun j b hb => ha b (List.mem_of_getElem? hb)).mono fun e w' ⟨he, hb⟩ => ⟨_, he, hb, hk⟩
def Tabs (h : Hp) : Prop := ∃ w0 : World, Lib.CaseVar 3 Lib.caseA w0 ∧ Lib.Utf8Tabs 5 6 w0 ∧ Step [] (hp w0) [] h
theorem Tabs.step (t : Tabs h) (s : Step [] h [] h') : Tabs h' := by
  obtain ⟨w, a, b, c⟩ := t
  exact ⟨w, a, b, c.trans s⟩
theorem cell_step {w0 w : World} (s : Step [] (hp w0) [] (hp w)) {a : Addr} {v : Value} (hc : w0.cell? a = some v) : w.cell? a = some v := by
  rw [← hp_cell?] at hc ⊢
  rw [← hc]
  refine cell_block rfl (s.keep _ (fun e => ?_) (by simp))
  unfold Hp.cell? at hc
  rw [e] at hc; cases hc
theorem Tabs.of {w : World} (t : Tabs (hp w)) : Lib.CaseVar 3 Lib.caseA w ∧ Lib.Utf8Tabs 5 6 w := by
  obtain ⟨w0, ⟨R, oR, cap, a1, a2⟩, b, c⟩ := t
  refine ⟨⟨R, oR, cap, cell_step c a1, fun i hi => ?_⟩, ?_⟩
  · obtain ⟨x1, x2, x3, x4, x5⟩ := a2 i hi
    exact ⟨cell_step c x1, cell_step c x2, cell_step c x3, cell_step c x4, cell_step c x5⟩
  · exact ⟨fun i hi => cell_step c (b.1 i hi), fun i hi => ⟨cell_step c (b.2 i hi).1, cell_step c (b.2 i hi).2⟩⟩
theorem lower_any {s : ByteArray} (hs : s.size ≤ 1000) (ht : Tabs h) (hk : ∀ h', Step [] h [] h' → K (.string ⟨(Lib.toLowerD s.data.toList).toArray⟩) h') : HC P strings_ToLower.n #[.string s] h K :=
  HC_of_calls fun w hw => (Go.Proofs.Any.strings_ToLower_any Go.Proofs.Tryz.lays159 Go.Proofs.Tryz.extra159 s w (by omega) (Tabs.of (by rw [hw]; exact ht)).1 (Tabs.of (by rw [hw]; exact ht)).2).mono fun e w' ⟨he, hb⟩ => ⟨_, he, hb, hk⟩
end Go.Den.Mon
end

section
set_option linter.unusedVariables false
set_option maxRecDepth 100000
namespace Go.Den.Mon
open Go Go.Den
noncomputable section
def internal_strconv_formatBits.k0 (n4 : Int) (n1 : Int) (n3 : Int) (h2 : Hp) (b2 : Nat) (n2 : Int) (I0 : List Value → Hp → Prop) (x0 : List Value → Hp → Nat) : Prop :=
 ((0 : Int) ≤ (bits .and .u64 n4 (IntKind.wrap .u64 ((IntKind.wrap .u64 n1) - 1)))) ∧ (∃ b4 : UInt8, (((⟨#[48, 49, 50, 51, 52, 53, 54, 55, 56, 57, 97, 98, 99, 100, 101, 102, 103, 104, 105, 106, 107, 108, 109, 110, 111, 112, 113, 114, 115, 116, 117, 118, 119, 120, 121, 122]⟩ : ByteArray)[(bits .and .u64 n4 (IntKind.wrap .u64 ((IntKind.wrap .u64 n1) - 1))).toNat]?) = (some b4)) ∧ ((0 : Int) ≤ (IntKind.wrap .i64 (n3 - 1))) ∧ ((IntKind.wrap .i64 (n3 - 1)) < (65 : Int)) ∧ (∃ u0 : Value, (h2.cell? ((⟨b2, 0, none⟩ : Addr).add ((IntKind.wrap .i64 (n3 - 1)).toNat * 1))) = (some u0)) ∧ ((h2.frozen? ((⟨b2, 0, none⟩ : Addr).add ((IntKind.wrap .i64 (n3 - 1)).toNat * 1))) = Bool.false) ∧ ((0 : Int) ≤ (IntKind.wrap .u64 n2)) ∧ (I0 [.int .i64 (IntKind.wrap .i64 (n3 - 1)), .int .u64 (Int.fdiv n4 (2 ^ Min.min ((IntKind.wrap .u64 n2).toNat) 64))] (h2.setCell ((⟨b2, 0, none⟩ : Addr).add ((IntKind.wrap .i64 (n3 - 1)).toNat * 1)) (.int .u8 (b4.toNat : Int)))) ∧ (x0 [.int .i64 (IntKind.wrap .i64 (n3 - 1)), .int .u64 (Int.fdiv n4 (2 ^ Min.min ((IntKind.wrap .u64 n2).toNat) 64))] (h2.setCell ((⟨b2, 0, none⟩ : Addr).add ((IntKind.wrap .i64 (n3 - 1)).toNat * 1)) (.int .u8 (b4.toNat : Int)))) < (x0 [.int .i64 n3, .int .u64 n4] h2))
def internal_strconv_formatBits.k1 (n3 : Int) (a0 : Option Addr) (len0 : Nat) (cap0 : Nat) (b2 : Nat) (K : Value → Hp → Prop) (h2 : Hp) (b5 : UInt8) : Prop :=
 ((0 : Int) ≤ (IntKind.wrap .i64 ((IntKind.wrap .i64 (n3 - 1)) - 1))) ∧ ((IntKind.wrap .i64 ((IntKind.wrap .i64 (n3 - 1)) - 1)) ≤ (65 : Int)) ∧ wpSem P (Builtin.append_ #[T.sl_uint8, T.sl_uint8] T.sl_uint8 #[.slice a0 len0 cap0, .slice (Den.offA (some ⟨b2, 0, none⟩) 65 ((IntKind.wrap .i64 ((IntKind.wrap .i64 (n3 - 1)) - 1)).toNat) 1) (65 - (IntKind.wrap .i64 ((IntKind.wrap .i64 (n3 - 1)) - 1)).toNat) (65 - (IntKind.wrap .i64 ((IntKind.wrap .i64 (n3 - 1)) - 1)).toNat)]) (fun v2 h3 => (∃ a1 : Option Addr, (∃ n5 : Nat, (∃ c0 : Nat, (v2 = (.slice a1 n5 c0)) ∧ K (.tuple #[.slice a1 n5 c0, .string (⟨#[]⟩ : ByteArray)]) h3)))) ((h2.setCell ((⟨b2, 0, none⟩ : Addr).add ((IntKind.wrap .i64 (n3 - 1)).toNat * 1)) (.int .u8 (b5.toNat : Int))).setCell ((⟨b2, 0, none⟩ : Addr).add ((IntKind.wrap .i64 ((IntKind.wrap .i64 (n3 - 1)) - 1)).toNat * 1)) (.int .u8 45))
def internal_strconv_formatBits.k2 (n3 : Int) (b2 : Nat) (K : Value → Hp → Prop) (h2 : Hp) (b5 : UInt8) : Prop :=
 ((0 : Int) ≤ (IntKind.wrap .i64 ((IntKind.wrap .i64 (n3 - 1)) - 1))) ∧ ((IntKind.wrap .i64 ((IntKind.wrap .i64 (n3 - 1)) - 1)) ≤ (65 : Int)) ∧ wpSem P (convDark T.sl_uint8 T.string (.slice (Den.offA (some ⟨b2, 0, none⟩) 65 ((IntKind.wrap .i64 ((IntKind.wrap .i64 (n3 - 1)) - 1)).toNat) 1) (65 - (IntKind.wrap .i64 ((IntKind.wrap .i64 (n3 - 1)) - 1)).toNat) (65 - (IntKind.wrap .i64 ((IntKind.wrap .i64 (n3 - 1)) - 1)).toNat))) (fun v3 h4 => (∃ s0 : ByteArray, (v3 = (.string s0)) ∧ K (.tuple #[.slice none 0 0, .string s0]) h4)) ((h2.setCell ((⟨b2, 0, none⟩ : Addr).add ((IntKind.wrap .i64 (n3 - 1)).toNat * 1)) (.int .u8 (b5.toNat : Int))).setCell ((⟨b2, 0, none⟩ : Addr).add ((IntKind.wrap .i64 ((IntKind.wrap .i64 (n3 - 1)) - 1)).toNat * 1)) (.int .u8 45))
def internal_strconv_formatBits.k3 (n3 : Int) (h2 : Hp) (b2 : Nat) (b5 : UInt8) (b1 : Bool) (a0 : Option Addr) (len0 : Nat) (cap0 : Nat) (K : Value → Hp → Prop) : Prop :=
 ((0 : Int) ≤ (IntKind.wrap .i64 ((IntKind.wrap .i64 (n3 - 1)) - 1))) ∧ ((IntKind.wrap .i64 ((IntKind.wrap .i64 (n3 - 1)) - 1)) < (65 : Int)) ∧ (∃ u2 : Value, ((h2.setCell ((⟨b2, 0, none⟩ : Addr).add ((IntKind.wrap .i64 (n3 - 1)).toNat * 1)) (.int .u8 (b5.toNat : Int))).cell? ((⟨b2, 0, none⟩ : Addr).add ((IntKind.wrap .i64 ((IntKind.wrap .i64 (n3 - 1)) - 1)).toNat * 1))) = (some u2)) ∧ (((h2.setCell ((⟨b2, 0, none⟩ : Addr).add ((IntKind.wrap .i64 (n3 - 1)).toNat * 1)) (.int .u8 (b5.toNat : Int))).frozen? ((⟨b2, 0, none⟩ : Addr).add ((IntKind.wrap .i64 ((IntKind.wrap .i64 (n3 - 1)) - 1)).toNat * 1))) = Bool.false) ∧ bcase (b1)
 ((internal_strconv_formatBits.k1 n3 a0 len0 cap0 b2 K h2 b5))
 ((internal_strconv_formatBits.k2 n3 b2 K h2 b5))
def internal_strconv_formatBits.k4 (n3 : Int) (a0 : Option Addr) (len0 : Nat) (cap0 : Nat) (b2 : Nat) (K : Value → Hp → Prop) (h2 : Hp) (b5 : UInt8) : Prop :=
 ((0 : Int) ≤ (IntKind.wrap .i64 (n3 - 1))) ∧ ((IntKind.wrap .i64 (n3 - 1)) ≤ (65 : Int)) ∧ wpSem P (Builtin.append_ #[T.sl_uint8, T.sl_uint8] T.sl_uint8 #[.slice a0 len0 cap0, .slice (Den.offA (some ⟨b2, 0, none⟩) 65 ((IntKind.wrap .i64 (n3 - 1)).toNat) 1) (65 - (IntKind.wrap .i64 (n3 - 1)).toNat) (65 - (IntKind.wrap .i64 (n3 - 1)).toNat)]) (fun v4 h5 => (∃ a2 : Option Addr, (∃ n6 : Nat, (∃ c1 : Nat, (v4 = (.slice a2 n6 c1)) ∧ K (.tuple #[.slice a2 n6 c1, .string (⟨#[]⟩ : ByteArray)]) h5)))) (h2.setCell ((⟨b2, 0, none⟩ : Addr).add ((IntKind.wrap .i64 (n3 - 1)).toNat * 1)) (.int .u8 (b5.toNat : Int)))
def internal_strconv_formatBits.k5 (n3 : Int) (b2 : Nat) (K : Value → Hp → Prop) (h2 : Hp) (b5 : UInt8) : Prop :=
 ((0 : Int) ≤ (IntKind.wrap .i64 (n3 - 1))) ∧ ((IntKind.wrap .i64 (n3 - 1)) ≤ (65 : Int)) ∧ wpSem P (convDark T.sl_uint8 T.string (.slice (Den.offA (some ⟨b2, 0, none⟩) 65 ((IntKind.wrap .i64 (n3 - 1)).toNat) 1) (65 - (IntKind.wrap .i64 (n3 - 1)).toNat) (65 - (IntKind.wrap .i64 (n3 - 1)).toNat))) (fun v5 h6 => (∃ s1 : ByteArray, (v5 = (.string s1)) ∧ K (.tuple #[.slice none 0 0, .string s1]) h6)) (h2.setCell ((⟨b2, 0, none⟩ : Addr).add ((IntKind.wrap .i64 (n3 - 1)).toNat * 1)) (.int .u8 (b5.toNat : Int)))
def internal_strconv_formatBits.k6 (b1 : Bool) (n3 : Int) (a0 : Option Addr) (len0 : Nat) (cap0 : Nat) (b2 : Nat) (K : Value → Hp → Prop) (h2 : Hp) (b5 : UInt8) : Prop :=
 bcase (b1)
 ((internal_strconv_formatBits.k4 n3 a0 len0 cap0 b2 K h2 b5))
 ((internal_strconv_formatBits.k5 n3 b2 K h2 b5))
def internal_strconv_formatBits.k7 (n4 : Int) (n3 : Int) (h2 : Hp) (b2 : Nat) (b0 : Bool) (b1 : Bool) (a0 : Option Addr) (len0 : Nat) (cap0 : Nat) (K : Value → Hp → Prop) : Prop :=
 ((0 : Int) ≤ n4) ∧ (∃ b5 : UInt8, (((⟨#[48, 49, 50, 51, 52, 53, 54, 55, 56, 57, 97, 98, 99, 100, 101, 102, 103, 104, 105, 106, 107, 108, 109, 110, 111, 112, 113, 114, 115, 116, 117, 118, 119, 120, 121, 122]⟩ : ByteArray)[n4.toNat]?) = (some b5)) ∧ ((0 : Int) ≤ (IntKind.wrap .i64 (n3 - 1))) ∧ ((IntKind.wrap .i64 (n3 - 1)) < (65 : Int)) ∧ (∃ u1 : Value, (h2.cell? ((⟨b2, 0, none⟩ : Addr).add ((IntKind.wrap .i64 (n3 - 1)).toNat * 1))) = (some u1)) ∧ ((h2.frozen? ((⟨b2, 0, none⟩ : Addr).add ((IntKind.wrap .i64 (n3 - 1)).toNat * 1))) = Bool.false) ∧ bcase (b0)
 ((internal_strconv_formatBits.k3 n3 h2 b2 b5 b1 a0 len0 cap0 K))
 ((internal_strconv_formatBits.k6 b1 n3 a0 len0 cap0 b2 K h2 b5)))
def internal_strconv_formatBits.k8 (I0 : List Value → Hp → Prop) (n0 : Int) (h1 : Hp) (n1 : Int) (b2 : Nat) (n2 : Int) (x0 : List Value → Hp → Nat) (b0 : Bool) (b1 : Bool) (a0 : Option Addr) (len0 : Nat) (cap0 : Nat) (K : Value → Hp → Prop) : Prop :=
 (I0 [.int .i64 65, .int .u64 (IntKind.wrap .u64 (0 - n0))] h1) ∧ (∀ h2 : Hp, (∀ n3 : Int, (∀ n4 : Int, (I0 [.int .i64 n3, .int .u64 n4] h2 → bcase (decide ((IntKind.wrap .u64 n1) ≤ n4))
 ((internal_strconv_formatBits.k0 n4 n1 n3 h2 b2 n2 I0 x0))
 ((internal_strconv_formatBits.k7 n4 n3 h2 b2 b0 b1 a0 len0 cap0 K))))))
def internal_strconv_formatBits.k9 (n1 : Int) (h0 : Hp) (n0 : Int) (b2 : Nat) (b0 : Bool) (b1 : Bool) (a0 : Option Addr) (len0 : Nat) (cap0 : Nat) (K : Value → Hp → Prop) : Prop :=
 HC P math_bits_TrailingZeros.n #[.int .u64 (IntKind.wrap .u64 n1)] h0 (fun v1 h1 => (∃ n2 : Int, (v1 = (.int .i64 n2)) ∧ (∃ I0 : List Value → Hp → Prop, (∃ x0 : List Value → Hp → Nat, (internal_strconv_formatBits.k8 I0 n0 h1 n1 b2 n2 x0 b0 b1 a0 len0 cap0 K)))))
def internal_strconv_formatBits.k10 (n1 : Int) (n8 : Int) (n7 : Int) (h7 : Hp) (b2 : Nat) (I1 : List Value → Hp → Prop) (x1 : List Value → Hp → Nat) : Prop :=
 ((IntKind.wrap .u64 n1) ≠ 0) ∧ ((0 : Int) ≤ (IntKind.wrap .u64 (n8 - (IntKind.wrap .u64 ((IntKind.wrap .u64 (Int.tdiv n8 (IntKind.wrap .u64 n1))) * (IntKind.wrap .u64 n1)))))) ∧ (∃ b6 : UInt8, (((⟨#[48, 49, 50, 51, 52, 53, 54, 55, 56, 57, 97, 98, 99, 100, 101, 102, 103, 104, 105, 106, 107, 108, 109, 110, 111, 112, 113, 114, 115, 116, 117, 118, 119, 120, 121, 122]⟩ : ByteArray)[(IntKind.wrap .u64 (n8 - (IntKind.wrap .u64 ((IntKind.wrap .u64 (Int.tdiv n8 (IntKind.wrap .u64 n1))) * (IntKind.wrap .u64 n1))))).toNat]?) = (some b6)) ∧ ((0 : Int) ≤ (IntKind.wrap .i64 (n7 - 1))) ∧ ((IntKind.wrap .i64 (n7 - 1)) < (65 : Int)) ∧ (∃ u3 : Value, (h7.cell? ((⟨b2, 0, none⟩ : Addr).add ((IntKind.wrap .i64 (n7 - 1)).toNat * 1))) = (some u3)) ∧ ((h7.frozen? ((⟨b2, 0, none⟩ : Addr).add ((IntKind.wrap .i64 (n7 - 1)).toNat * 1))) = Bool.false) ∧ (I1 [.int .i64 (IntKind.wrap .i64 (n7 - 1)), .int .u64 (IntKind.wrap .u64 (Int.tdiv n8 (IntKind.wrap .u64 n1)))] (h7.setCell ((⟨b2, 0, none⟩ : Addr).add ((IntKind.wrap .i64 (n7 - 1)).toNat * 1)) (.int .u8 (b6.toNat : Int)))) ∧ (x1 [.int .i64 (IntKind.wrap .i64 (n7 - 1)), .int .u64 (IntKind.wrap .u64 (Int.tdiv n8 (IntKind.wrap .u64 n1)))] (h7.setCell ((⟨b2, 0, none⟩ : Addr).add ((IntKind.wrap .i64 (n7 - 1)).toNat * 1)) (.int .u8 (b6.toNat : Int)))) < (x1 [.int .i64 n7, .int .u64 n8] h7))
def internal_strconv_formatBits.k11 (n0 : Int) (h0 : Hp) (n1 : Int) (b2 : Nat) (b0 : Bool) (b1 : Bool) (a0 : Option Addr) (len0 : Nat) (cap0 : Nat) (K : Value → Hp → Prop) : Prop :=
 (∃ I1 : List Value → Hp → Prop, (∃ x1 : List Value → Hp → Nat, (I1 [.int .i64 65, .int .u64 (IntKind.wrap .u64 (0 - n0))] h0) ∧ (∀ h7 : Hp, (∀ n7 : Int, (∀ n8 : Int, (I1 [.int .i64 n7, .int .u64 n8] h7 → bcase (decide ((IntKind.wrap .u64 n1) ≤ n8))
 ((internal_strconv_formatBits.k10 n1 n8 n7 h7 b2 I1 x1))
 ((internal_strconv_formatBits.k7 n8 n7 h7 b2 b0 b1 a0 len0 cap0 K))))))))
def internal_strconv_formatBits.k12 (b3 : Bool) (n1 : Int) (h0 : Hp) (n0 : Int) (b2 : Nat) (b0 : Bool) (b1 : Bool) (a0 : Option Addr) (len0 : Nat) (cap0 : Nat) (K : Value → Hp → Prop) : Prop :=
 bcase (b3)
 ((internal_strconv_formatBits.k9 n1 h0 n0 b2 b0 b1 a0 len0 cap0 K))
 ((internal_strconv_formatBits.k11 n0 h0 n1 b2 b0 b1 a0 len0 cap0 K))
def internal_strconv_formatBits.k13 (n1 : Int) (h : Hp) (b2 : Nat) (n0 : Int) (b0 : Bool) (b1 : Bool) (a0 : Option Addr) (len0 : Nat) (cap0 : Nat) (K : Value → Hp → Prop) : Prop :=
 HC P internal_strconv_isPowerOfTwo.n #[.int .i64 n1] (h.put b2 (.cells #[.int .u8 0, .int .u8 0, .int .u8 0, .int .u8 0, .int .u8 0, .int .u8 0, .int .u8 0, .int .u8 0, .int .u8 0, .int .u8 0, .int .u8 0, .int .u8 0, .int .u8 0, .int .u8 0, .int .u8 0, .int .u8 0, .int .u8 0, .int .u8 0, .int .u8 0, .int .u8 0, .int .u8 0, .int .u8 0, .int .u8 0, .int .u8 0, .int .u8 0, .int .u8 0, .int .u8 0, .int .u8 0, .int .u8 0, .int .u8 0, .int .u8 0, .int .u8 0, .int .u8 0, .int .u8 0, .int .u8 0, .int .u8 0, .int .u8 0, .int .u8 0, .int .u8 0, .int .u8 0, .int .u8 0, .int .u8 0, .int .u8 0, .int .u8 0, .int .u8 0, .int .u8 0, .int .u8 0, .int .u8 0, .int .u8 0, .int .u8 0, .int .u8 0, .int .u8 0, .int .u8 0, .int .u8 0, .int .u8 0, .int .u8 0, .int .u8 0, .int .u8 0, .int .u8 0, .int .u8 0, .int .u8 0, .int .u8 0, .int .u8 0, .int .u8 0, .int .u8 0] T.t65_uint8 (0, 0))) (fun v0 h0 => (∃ b3 : Bool, (v0 = (.bool b3)) ∧ (internal_strconv_formatBits.k12 b3 n1 h0 n0 b2 b0 b1 a0 len0 cap0 K)))
def internal_strconv_formatBits.k14 (I2 : List Value → Hp → Prop) (n0 : Int) (h9 : Hp) (n1 : Int) (b2 : Nat) (n9 : Int) (x2 : List Value → Hp → Nat) (b0 : Bool) (b1 : Bool) (a0 : Option Addr) (len0 : Nat) (cap0 : Nat) (K : Value → Hp → Prop) : Prop :=
 (I2 [.int .i64 65, .int .u64 n0] h9) ∧ (∀ h10 : Hp, (∀ n10 : Int, (∀ n11 : Int, (I2 [.int .i64 n10, .int .u64 n11] h10 → bcase (decide ((IntKind.wrap .u64 n1) ≤ n11))
 ((internal_strconv_formatBits.k0 n11 n1 n10 h10 b2 n9 I2 x2))
 ((internal_strconv_formatBits.k7 n11 n10 h10 b2 b0 b1 a0 len0 cap0 K))))))
def internal_strconv_formatBits.k15 (n1 : Int) (h8 : Hp) (n0 : Int) (b2 : Nat) (b0 : Bool) (b1 : Bool) (a0 : Option Addr) (len0 : Nat) (cap0 : Nat) (K : Value → Hp → Prop) : Prop :=
 HC P math_bits_TrailingZeros.n #[.int .u64 (IntKind.wrap .u64 n1)] h8 (fun v7 h9 => (∃ n9 : Int, (v7 = (.int .i64 n9)) ∧ (∃ I2 : List Value → Hp → Prop, (∃ x2 : List Value → Hp → Nat, (internal_strconv_formatBits.k14 I2 n0 h9 n1 b2 n9 x2 b0 b1 a0 len0 cap0 K)))))
def internal_strconv_formatBits.k16 (n0 : Int) (h8 : Hp) (n1 : Int) (b2 : Nat) (b0 : Bool) (b1 : Bool) (a0 : Option Addr) (len0 : Nat) (cap0 : Nat) (K : Value → Hp → Prop) : Prop :=
 (∃ I3 : List Value → Hp → Prop, (∃ x3 : List Value → Hp → Nat, (I3 [.int .i64 65, .int .u64 n0] h8) ∧ (∀ h11 : Hp, (∀ n12 : Int, (∀ n13 : Int, (I3 [.int .i64 n12, .int .u64 n13] h11 → bcase (decide ((IntKind.wrap .u64 n1) ≤ n13))
 ((internal_strconv_formatBits.k10 n1 n13 n12 h11 b2 I3 x3))
 ((internal_strconv_formatBits.k7 n13 n12 h11 b2 b0 b1 a0 len0 cap0 K))))))))
def internal_strconv_formatBits.k17 (b7 : Bool) (n1 : Int) (h8 : Hp) (n0 : Int) (b2 : Nat) (b0 : Bool) (b1 : Bool) (a0 : Option Addr) (len0 : Nat) (cap0 : Nat) (K : Value → Hp → Prop) : Prop :=
 bcase (b7)
 ((internal_strconv_formatBits.k15 n1 h8 n0 b2 b0 b1 a0 len0 cap0 K))
 ((internal_strconv_formatBits.k16 n0 h8 n1 b2 b0 b1 a0 len0 cap0 K))
def internal_strconv_formatBits.k18 (n1 : Int) (h : Hp) (b2 : Nat) (n0 : Int) (b0 : Bool) (b1 : Bool) (a0 : Option Addr) (len0 : Nat) (cap0 : Nat) (K : Value → Hp → Prop) : Prop :=
 HC P internal_strconv_isPowerOfTwo.n #[.int .i64 n1] (h.put b2 (.cells #[.int .u8 0, .int .u8 0, .int .u8 0, .int .u8 0, .int .u8 0, .int .u8 0, .int .u8 0, .int .u8 0, .int .u8 0, .int .u8 0, .int .u8 0, .int .u8 0, .int .u8 0, .int .u8 0, .int .u8 0, .int .u8 0, .int .u8 0, .int .u8 0, .int .u8 0, .int .u8 0, .int .u8 0, .int .u8 0, .int .u8 0, .int .u8 0, .int .u8 0, .int .u8 0, .int .u8 0, .int .u8 0, .int .u8 0, .int .u8 0, .int .u8 0, .int .u8 0, .int .u8 0, .int .u8 0, .int .u8 0, .int .u8 0, .int .u8 0, .int .u8 0, .int .u8 0, .int .u8 0, .int .u8 0, .int .u8 0, .int .u8 0, .int .u8 0, .int .u8 0, .int .u8 0, .int .u8 0, .int .u8 0, .int .u8 0, .int .u8 0, .int .u8 0, .int .u8 0, .int .u8 0, .int .u8 0, .int .u8 0, .int .u8 0, .int .u8 0, .int .u8 0, .int .u8 0, .int .u8 0, .int .u8 0, .int .u8 0, .int .u8 0, .int .u8 0, .int .u8 0] T.t65_uint8 (0, 0))) (fun v6 h8 => (∃ b7 : Bool, (v6 = (.bool b7)) ∧ (internal_strconv_formatBits.k17 b7 n1 h8 n0 b2 b0 b1 a0 len0 cap0 K)))
def internal_strconv_formatBits.k19 (h : Hp) (b0 : Bool) (n1 : Int) (n0 : Int) (b1 : Bool) (a0 : Option Addr) (len0 : Nat) (cap0 : Nat) (K : Value → Hp → Prop) : Prop :=
 (∀ b2 : Nat, ((h b2) = none → bcase (b0)
 ((internal_strconv_formatBits.k13 n1 h b2 n0 b0 b1 a0 len0 cap0 K))
 ((internal_strconv_formatBits.k18 n1 h b2 n0 b0 b1 a0 len0 cap0 K))))
def internal_strconv_formatBits.k20 (n1 : Int) (h : Hp) (b0 : Bool) (n0 : Int) (b1 : Bool) (a0 : Option Addr) (len0 : Nat) (cap0 : Nat) (K : Value → Hp → Prop) : Prop :=
 bcase (decide ((36 : Int) < n1))
 (False)
 ((internal_strconv_formatBits.k19 h b0 n1 n0 b1 a0 len0 cap0 K))
def internal_strconv_formatBits.k21 (n1 : Int) (h : Hp) (b0 : Bool) (n0 : Int) (b1 : Bool) (a0 : Option Addr) (len0 : Nat) (cap0 : Nat) (K : Value → Hp → Prop) : Prop :=
 bcase ((n1 == 10))
 (False)
 ((internal_strconv_formatBits.k20 n1 h b0 n0 b1 a0 len0 cap0 K))
def internal_strconv_formatBits (a0 : Option Addr) (len0 : Nat) (cap0 : Nat) (n0 : Int) (n1 : Int) (b0 : Bool) (b1 : Bool) (K : Value → Hp → Prop) (h : Hp) : Prop :=
 bcase (decide (n1 < 2))
 (False)
 ((internal_strconv_formatBits.k21 n1 h b0 n0 b1 a0 len0 cap0 K))
theorem internal_strconv_formatBits.hc {a0 : Option Addr} {len0 : Nat} {cap0 : Nat} {n0 : Int} {n1 : Int} {b0 : Bool} {b1 : Bool} {K : Value → Hp → Prop} {h : Hp} (hh : internal_strconv_formatBits a0 len0 cap0 n0 n1 b0 b1 K h) : HC P internal_strconv_formatBits.n #[.slice a0 len0 cap0, .int .u64 n0, .int .i64 n1, .bool b0, .bool b1] h K :=
  HC_of_den (fn := Go.Proofs.Tryz.f105) (args := [.slice a0 len0 cap0, .int .u64 n0, .int .i64 n1, .bool b0, .bool b1]) Go.Proofs.Tryz.func105 rfl (Nat.le_of_ble_eq_true (by kernel_rfl)) (den_cast hh (by kernel_rfl))
def internal_strconv_isPowerOfTwo (n0 : Int) (K : Value → Hp → Prop) (h : Hp) : Prop :=
 K (.bool ((bits .and .i64 n0 (IntKind.wrap .i64 (n0 - 1))) == 0)) h
theorem internal_strconv_isPowerOfTwo.hc {n0 : Int} {K : Value → Hp → Prop} {h : Hp} (hh : internal_strconv_isPowerOfTwo n0 K h) : HC P internal_strconv_isPowerOfTwo.n #[.int .i64 n0] h K :=
  HC_of_den (fn := Go.Proofs.Tryz.f123) (args := [.int .i64 n0]) Go.Proofs.Tryz.func123 rfl (Nat.le_of_ble_eq_true (by kernel_rfl)) (den_cast hh (by kernel_rfl))
def math_bits_TrailingZeros (n0 : Int) (K : Value → Hp → Prop) (h : Hp) : Prop :=
 HC P math_bits_TrailingZeros64.n #[.int .u64 n0] h (fun v0 h0 => (∃ n1 : Int, (v0 = (.int .i64 n1)) ∧ K (.int .i64 n1) h0))
theorem math_bits_TrailingZeros.hc {n0 : Int} {K : Value → Hp → Prop} {h : Hp} (hh : math_bits_TrailingZeros n0 K h) : HC P math_bits_TrailingZeros.n #[.int .u64 n0] h K :=
  HC_of_den (fn := Go.Proofs.Tryz.f124) (args := [.int .u64 n0]) Go.Proofs.Tryz.func124 rfl (Nat.le_of_ble_eq_true (by kernel_rfl)) (den_cast hh (by kernel_rfl))
def math_bits_TrailingZeros64.k0 (n0 : Int) (h : Hp) (K : Value → Hp → Prop) : Prop :=
 ((0 : Int) ≤ 58) ∧ ((0 : Int) ≤ (Int.fdiv (IntKind.wrap .u64 ((bits .and .u64 n0 (IntKind.wrap .u64 (0 - n0))) * 285870213051353865)) (2 ^ Min.min ((58 : Int).toNat) 64))) ∧ ((Int.fdiv (IntKind.wrap .u64 ((bits .and .u64 n0 (IntKind.wrap .u64 (0 - n0))) * 285870213051353865)) (2 ^ Min.min ((58 : Int).toNat) 64)) < (64 : Int)) ∧ (∃ n1 : Int, ((h.cell? ((⟨8, 0, none⟩ : Addr).add ((Int.fdiv (IntKind.wrap .u64 ((bits .and .u64 n0 (IntKind.wrap .u64 (0 - n0))) * 285870213051353865)) (2 ^ Min.min ((58 : Int).toNat) 64)).toNat * 1))) = (some (.int .u8 n1))) ∧ K (.int .i64 (IntKind.wrap .i64 n1)) h)
def math_bits_TrailingZeros64 (n0 : Int) (K : Value → Hp → Prop) (h : Hp) : Prop :=
 bcase ((n0 == 0))
 (K (.int .i64 64) h)
 ((math_bits_TrailingZeros64.k0 n0 h K))
theorem math_bits_TrailingZeros64.hc {n0 : Int} {K : Value → Hp → Prop} {h : Hp} (hh : math_bits_TrailingZeros64 n0 K h) : HC P math_bits_TrailingZeros64.n #[.int .u64 n0] h K :=
  HC_of_den (fn := Go.Proofs.Tryz.f131) (args := [.int .u64 n0]) Go.Proofs.Tryz.func131 rfl (Nat.le_of_ble_eq_true (by kernel_rfl)) (den_cast hh (by kernel_rfl))
def strconv_ParseUint.k0 (v1 : Value) (K : Value → Hp → Prop) (n2 : Int) (h0 : Hp) (s0 : ByteArray) (n0 : Int) (n1 : Int) : Prop :=
 (((v1 = .nilIface) ∧ K (.tuple #[.int .u64 n2, .nilIface]) h0) ∨ (∃ t0 : _, (∃ v2 : Value, (v1 = (.iface t0 v2)) ∧ HC P strconv_toError.n #[.string (⟨#[80, 97, 114, 115, 101, 85, 105, 110, 116]⟩ : ByteArray), .string s0, .int .i64 n0, .int .i64 n1, v1] h0 (fun v3 h1 => (∃ v4 : Value, (v3 = v4) ∧ K (.tuple #[.int .u64 n2, v4]) h1)))))
def strconv_ParseUint (s0 : ByteArray) (n0 : Int) (n1 : Int) (K : Value → Hp → Prop) (h : Hp) : Prop :=
 HC P internal_strconv_ParseUint.n #[.string s0, .int .i64 n0, .int .i64 n1] h (fun v0 h0 => (∃ n2 : Int, (∃ v1 : Value, (v0 = (.tuple #[.int .u64 n2, v1])) ∧ (strconv_ParseUint.k0 v1 K n2 h0 s0 n0 n1))))
theorem strconv_ParseUint.hc {s0 : ByteArray} {n0 : Int} {n1 : Int} {K : Value → Hp → Prop} {h : Hp} (hh : strconv_ParseUint s0 n0 n1 K h) : HC P strconv_ParseUint.n #[.string s0, .int .i64 n0, .int .i64 n1] h K :=
  HC_of_den (fn := Go.Proofs.Tryz.f54) (args := [.string s0, .int .i64 n0, .int .i64 n1]) Go.Proofs.Tryz.func54 rfl (Nat.le_of_ble_eq_true (by kernel_rfl)) (den_cast hh (by kernel_rfl))
-- NOT WRITTEN 71 strconv_toError
def internal_strconv_lower (n0 : Int) (K : Value → Hp → Prop) (h : Hp) : Prop :=
 K (.int .u8 (bits .or .u8 n0 32)) h
theorem internal_strconv_lower.hc {n0 : Int} {K : Value → Hp → Prop} {h : Hp} (hh : internal_strconv_lower n0 K h) : HC P internal_strconv_lower.n #[.int .u8 n0] h K :=
  HC_of_den (fn := Go.Proofs.Tryz.f84) (args := [.int .u8 n0]) Go.Proofs.Tryz.func84 rfl (Nat.le_of_ble_eq_true (by kernel_rfl)) (den_cast hh (by kernel_rfl))
def strings_Contains (s0 : ByteArray) (s1 : ByteArray) (K : Value → Hp → Prop) (h : Hp) : Prop :=
 HC P strings_Index.n #[.string s0, .string s1] h (fun v0 h0 => (∃ n0 : Int, (v0 = (.int .i64 n0)) ∧ K (.bool (decide ((0 : Int) ≤ n0))) h0))
theorem strings_Contains.hc {s0 : ByteArray} {s1 : ByteArray} {K : Value → Hp → Prop} {h : Hp} (hh : strings_Contains s0 s1 K h) : HC P strings_Contains.n #[.string s0, .string s1] h K :=
  HC_of_den (fn := Go.Proofs.Tryz.f56) (args := [.string s0, .string s1]) Go.Proofs.Tryz.func56 rfl (Nat.le_of_ble_eq_true (by kernel_rfl)) (den_cast hh (by kernel_rfl))
def strings_Index (s0 : ByteArray) (s1 : ByteArray) (K : Value → Hp → Prop) (h : Hp) : Prop :=
 HC P internal_stringslite_Index.n #[.string s0, .string s1] h (fun v0 h0 => (∃ n0 : Int, (v0 = (.int .i64 n0)) ∧ K (.int .i64 n0) h0))
theorem strings_Index.hc {s0 : ByteArray} {s1 : ByteArray} {K : Value → Hp → Prop} {h : Hp} (hh : strings_Index s0 s1 K h) : HC P strings_Index.n #[.string s0, .string s1] h K :=
  HC_of_den (fn := Go.Proofs.Tryz.f75) (args := [.string s0, .string s1]) Go.Proofs.Tryz.func75 rfl (Nat.le_of_ble_eq_true (by kernel_rfl)) (den_cast hh (by kernel_rfl))
def internal_stringslite_Index.k0 (s1 : ByteArray) (s0 : ByteArray) (h : Hp) (K : Value → Hp → Prop) : Prop :=
 ((0 : Int) ≤ 0) ∧ (∃ b0 : UInt8, ((s1[(0 : Int).toNat]?) = (some b0)) ∧ HC P internal_stringslite_IndexByte.n #[.string s0, .int .u8 (b0.toNat : Int)] h (fun v0 h0 => (∃ n0 : Int, (v0 = (.int .i64 n0)) ∧ K (.int .i64 n0) h0)))
def internal_stringslite_Index.k1 (n2 : Int) (n5 : Int) (s0 : ByteArray) : Prop :=
 ((0 : Int) ≤ (IntKind.wrap .i64 ((IntKind.wrap .i64 (n2 + (IntKind.wrap .i64 (n5 + 1)))) + 1))) ∧ ((IntKind.wrap .i64 ((IntKind.wrap .i64 (n2 + (IntKind.wrap .i64 (n5 + 1)))) + 1)) ≤ (s0.size : Int)) ∧ False
def internal_stringslite_Index.k2 (K : Value → Hp → Prop) (n2 : Int) (n5 : Int) (n9 : Int) (h4 : Hp) : Prop :=
 K (.int .i64 (IntKind.wrap .i64 ((IntKind.wrap .i64 ((IntKind.wrap .i64 (n2 + (IntKind.wrap .i64 (n5 + 1)))) + 1)) + n9))) h4
def internal_stringslite_Index.k3 (n9 : Int) (K : Value → Hp → Prop) (h4 : Hp) (n2 : Int) (n5 : Int) : Prop :=
 bcase (decide (n9 < 0))
 (K (.int .i64 (-1)) h4)
 ((internal_stringslite_Index.k2 K n2 n5 n9 h4))
def internal_stringslite_Index.k4 (n2 : Int) (n5 : Int) (s0 : ByteArray) (s1 : ByteArray) (h3 : Hp) (K : Value → Hp → Prop) : Prop :=
 ((0 : Int) ≤ (IntKind.wrap .i64 ((IntKind.wrap .i64 (n2 + (IntKind.wrap .i64 (n5 + 1)))) + 1))) ∧ ((IntKind.wrap .i64 ((IntKind.wrap .i64 (n2 + (IntKind.wrap .i64 (n5 + 1)))) + 1)) ≤ (s0.size : Int)) ∧ HC P internal_bytealg_IndexRabinKarp_string.n #[.string (⟨((#[] ++ Array.extract (ByteArray.data s0) ((IntKind.wrap .i64 ((IntKind.wrap .i64 (n2 + (IntKind.wrap .i64 (n5 + 1)))) + 1)).toNat) ((IntKind.wrap .i64 ((IntKind.wrap .i64 (n2 + (IntKind.wrap .i64 (n5 + 1)))) + 1)).toNat + (s0.size - (IntKind.wrap .i64 ((IntKind.wrap .i64 (n2 + (IntKind.wrap .i64 (n5 + 1)))) + 1)).toNat))) ++ Array.extract #[] (0 + Min.min (s0.size - (IntKind.wrap .i64 ((IntKind.wrap .i64 (n2 + (IntKind.wrap .i64 (n5 + 1)))) + 1)).toNat) ((ByteArray.data s0).size - (IntKind.wrap .i64 ((IntKind.wrap .i64 (n2 + (IntKind.wrap .i64 (n5 + 1)))) + 1)).toNat)) 0)⟩ : ByteArray), .string s1] h3 (fun v3 h4 => (∃ n9 : Int, (v3 = (.int .i64 n9)) ∧ (internal_stringslite_Index.k3 n9 K h4 n2 n5)))
def internal_stringslite_Index.k5 (I0 : List Value → Hp → Prop) (n2 : Int) (n5 : Int) (n3 : Int) (n4 : Int) (h3 : Hp) (x0 : List Value → Hp → Nat) (h1 : Hp) : Prop :=
 (I0 [.int .i64 (IntKind.wrap .i64 ((IntKind.wrap .i64 (n2 + (IntKind.wrap .i64 (n5 + 1)))) + 1)), .int .i64 (IntKind.wrap .i64 (n3 + 1)), .int .i64 n4] h3) ∧ (x0 [.int .i64 (IntKind.wrap .i64 ((IntKind.wrap .i64 (n2 + (IntKind.wrap .i64 (n5 + 1)))) + 1)), .int .i64 (IntKind.wrap .i64 (n3 + 1)), .int .i64 n4] h3) < (x0 [.int .i64 n2, .int .i64 n3, .int .i64 n4] h1)
def internal_stringslite_Index.k6 (n2 : Int) (n5 : Int) (s0 : ByteArray) (s1 : ByteArray) (h3 : Hp) (K : Value → Hp → Prop) (I0 : List Value → Hp → Prop) (n3 : Int) (n4 : Int) (x0 : List Value → Hp → Nat) (h1 : Hp) : Prop :=
 bcase (decide ((IntKind.wrap .i64 ((IntKind.wrap .i64 (n2 + (IntKind.wrap .i64 (n5 + 1)))) + 1)) < (IntKind.wrap .i64 ((IntKind.wrap .i64 ((s0.size : Int) - (s1.size : Int))) + 1))))
 ((internal_stringslite_Index.k4 n2 n5 s0 s1 h3 K))
 ((internal_stringslite_Index.k5 I0 n2 n5 n3 n4 h3 x0 h1))
def internal_stringslite_Index.k7 (n2 : Int) (n5 : Int) (n3 : Int) (s0 : ByteArray) (s1 : ByteArray) (h3 : Hp) (K : Value → Hp → Prop) (I0 : List Value → Hp → Prop) (n4 : Int) (x0 : List Value → Hp → Nat) (h1 : Hp) : Prop :=
 ((0 : Int) ≤ 4) ∧ bcase (decide ((IntKind.wrap .i64 (4 + Int.fdiv (IntKind.wrap .i64 ((IntKind.wrap .i64 (n2 + (IntKind.wrap .i64 (n5 + 1)))) + 1)) (2 ^ Min.min ((4 : Int).toNat) 64))) ≤ (IntKind.wrap .i64 (n3 + 1))))
 ((internal_stringslite_Index.k6 n2 n5 s0 s1 h3 K I0 n3 n4 x0 h1))
 ((internal_stringslite_Index.k5 I0 n2 n5 n3 n4 h3 x0 h1))
def internal_stringslite_Index.k8 (h3 : Hp) (s1 : ByteArray) (n2 : Int) (n5 : Int) (n3 : Int) (s0 : ByteArray) (K : Value → Hp → Prop) (I0 : List Value → Hp → Prop) (n4 : Int) (x0 : List Value → Hp → Nat) (h1 : Hp) : Prop :=
 (∃ n8 : Int, ((h3.cell? ⟨0, 0, none⟩) = (some (.int .i64 n8))) ∧ bcase (decide (n8 < (s1.size : Int)))
 ((internal_stringslite_Index.k7 n2 n5 n3 s0 s1 h3 K I0 n4 x0 h1))
 ((internal_stringslite_Index.k5 I0 n2 n5 n3 n4 h3 x0 h1)))
def internal_stringslite_Index.k9 (n7 : Int) (n3 : Int) (n2 : Int) (n5 : Int) (s0 : ByteArray) (h3 : Hp) (s1 : ByteArray) (K : Value → Hp → Prop) (I0 : List Value → Hp → Prop) (n4 : Int) (x0 : List Value → Hp → Nat) (h1 : Hp) : Prop :=
 bcase (decide (n7 < (IntKind.wrap .i64 (n3 + 1))))
 ((internal_stringslite_Index.k1 n2 n5 s0))
 ((internal_stringslite_Index.k8 h3 s1 n2 n5 n3 s0 K I0 n4 x0 h1))
def internal_stringslite_Index.k10 (n2 : Int) (n5 : Int) (h2 : Hp) (n3 : Int) (s0 : ByteArray) (s1 : ByteArray) (K : Value → Hp → Prop) (I0 : List Value → Hp → Prop) (n4 : Int) (x0 : List Value → Hp → Nat) (h1 : Hp) : Prop :=
 HC P internal_bytealg_Cutover.n #[.int .i64 (IntKind.wrap .i64 ((IntKind.wrap .i64 (n2 + (IntKind.wrap .i64 (n5 + 1)))) + 1))] h2 (fun v2 h3 => (∃ n7 : Int, (v2 = (.int .i64 n7)) ∧ (internal_stringslite_Index.k9 n7 n3 n2 n5 s0 h3 s1 K I0 n4 x0 h1)))
def internal_stringslite_Index.k11 (h2 : Hp) (s1 : ByteArray) (n2 : Int) (n5 : Int) (n3 : Int) (s0 : ByteArray) (K : Value → Hp → Prop) (I0 : List Value → Hp → Prop) (n4 : Int) (x0 : List Value → Hp → Nat) (h1 : Hp) : Prop :=
 (∃ n6 : Int, ((h2.cell? ⟨0, 0, none⟩) = (some (.int .i64 n6))) ∧ bcase (decide ((s1.size : Int) ≤ n6))
 ((internal_stringslite_Index.k10 n2 n5 h2 n3 s0 s1 K I0 n4 x0 h1))
 ((internal_stringslite_Index.k8 h2 s1 n2 n5 n3 s0 K I0 n4 x0 h1)))
def internal_stringslite_Index.k12 (n2 : Int) (n5 : Int) (s1 : ByteArray) (s0 : ByteArray) (K : Value → Hp → Prop) (h2 : Hp) (n3 : Int) (I0 : List Value → Hp → Prop) (n4 : Int) (x0 : List Value → Hp → Nat) (h1 : Hp) : Prop :=
 ((0 : Int) ≤ (IntKind.wrap .i64 ((IntKind.wrap .i64 (n2 + (IntKind.wrap .i64 (n5 + 1)))) + (s1.size : Int)))) ∧ ((IntKind.wrap .i64 ((IntKind.wrap .i64 (n2 + (IntKind.wrap .i64 (n5 + 1)))) + (s1.size : Int))) ≤ (s0.size : Int)) ∧ ((0 : Int) ≤ (IntKind.wrap .i64 (n2 + (IntKind.wrap .i64 (n5 + 1))))) ∧ ((IntKind.wrap .i64 (n2 + (IntKind.wrap .i64 (n5 + 1)))) ≤ ((IntKind.wrap .i64 ((IntKind.wrap .i64 (n2 + (IntKind.wrap .i64 (n5 + 1)))) + (s1.size : Int))).toNat : Int)) ∧ bcase (((ByteArray.toList (⟨((#[] ++ Array.extract (ByteArray.data s0) ((IntKind.wrap .i64 (n2 + (IntKind.wrap .i64 (n5 + 1)))).toNat) ((IntKind.wrap .i64 (n2 + (IntKind.wrap .i64 (n5 + 1)))).toNat + ((IntKind.wrap .i64 ((IntKind.wrap .i64 (n2 + (IntKind.wrap .i64 (n5 + 1)))) + (s1.size : Int))).toNat - (IntKind.wrap .i64 (n2 + (IntKind.wrap .i64 (n5 + 1)))).toNat))) ++ Array.extract #[] (0 + Min.min ((IntKind.wrap .i64 ((IntKind.wrap .i64 (n2 + (IntKind.wrap .i64 (n5 + 1)))) + (s1.size : Int))).toNat - (IntKind.wrap .i64 (n2 + (IntKind.wrap .i64 (n5 + 1)))).toNat) ((ByteArray.data s0).size - (IntKind.wrap .i64 (n2 + (IntKind.wrap .i64 (n5 + 1)))).toNat)) 0)⟩ : ByteArray)) == (ByteArray.toList s1)))
 (K (.int .i64 (IntKind.wrap .i64 (n2 + (IntKind.wrap .i64 (n5 + 1))))) h2)
 ((internal_stringslite_Index.k11 h2 s1 n2 n5 n3 s0 K I0 n4 x0 h1))
def internal_stringslite_Index.k13 (n2 : Int) (n5 : Int) (s0 : ByteArray) (b2 : UInt8) (s1 : ByteArray) (K : Value → Hp → Prop) (h2 : Hp) (n3 : Int) (I0 : List Value → Hp → Prop) (n4 : Int) (x0 : List Value → Hp → Nat) (h1 : Hp) : Prop :=
 ((0 : Int) ≤ (IntKind.wrap .i64 ((IntKind.wrap .i64 (n2 + (IntKind.wrap .i64 (n5 + 1)))) + 1))) ∧ (∃ b4 : UInt8, ((s0[(IntKind.wrap .i64 ((IntKind.wrap .i64 (n2 + (IntKind.wrap .i64 (n5 + 1)))) + 1)).toNat]?) = (some b4)) ∧ bcase (((b4.toNat : Int) == (b2.toNat : Int)))
 ((internal_stringslite_Index.k12 n2 n5 s1 s0 K h2 n3 I0 n4 x0 h1))
 ((internal_stringslite_Index.k11 h2 s1 n2 n5 n3 s0 K I0 n4 x0 h1)))
def internal_stringslite_Index.k14 (n5 : Int) (K : Value → Hp → Prop) (h2 : Hp) (n2 : Int) (s0 : ByteArray) (b2 : UInt8) (s1 : ByteArray) (n3 : Int) (I0 : List Value → Hp → Prop) (n4 : Int) (x0 : List Value → Hp → Nat) (h1 : Hp) : Prop :=
 bcase (decide (n5 < 0))
 (K (.int .i64 (-1)) h2)
 ((internal_stringslite_Index.k13 n2 n5 s0 b2 s1 K h2 n3 I0 n4 x0 h1))
def internal_stringslite_Index.k15 (s0 : ByteArray) (s1 : ByteArray) (n2 : Int) (b1 : UInt8) (h1 : Hp) (K : Value → Hp → Prop) (b2 : UInt8) (n3 : Int) (I0 : List Value → Hp → Prop) (n4 : Int) (x0 : List Value → Hp → Nat) : Prop :=
 ((0 : Int) ≤ (IntKind.wrap .i64 ((IntKind.wrap .i64 ((s0.size : Int) - (s1.size : Int))) + 1))) ∧ ((IntKind.wrap .i64 ((IntKind.wrap .i64 ((s0.size : Int) - (s1.size : Int))) + 1)) ≤ (s0.size : Int)) ∧ ((0 : Int) ≤ (IntKind.wrap .i64 (n2 + 1))) ∧ ((IntKind.wrap .i64 (n2 + 1)) ≤ ((IntKind.wrap .i64 ((IntKind.wrap .i64 ((s0.size : Int) - (s1.size : Int))) + 1)).toNat : Int)) ∧ HC P internal_stringslite_IndexByte.n #[.string (⟨((#[] ++ Array.extract (ByteArray.data s0) ((IntKind.wrap .i64 (n2 + 1)).toNat) ((IntKind.wrap .i64 (n2 + 1)).toNat + ((IntKind.wrap .i64 ((IntKind.wrap .i64 ((s0.size : Int) - (s1.size : Int))) + 1)).toNat - (IntKind.wrap .i64 (n2 + 1)).toNat))) ++ Array.extract #[] (0 + Min.min ((IntKind.wrap .i64 ((IntKind.wrap .i64 ((s0.size : Int) - (s1.size : Int))) + 1)).toNat - (IntKind.wrap .i64 (n2 + 1)).toNat) ((ByteArray.data s0).size - (IntKind.wrap .i64 (n2 + 1)).toNat)) 0)⟩ : ByteArray), .int .u8 (b1.toNat : Int)] h1 (fun v1 h2 => (∃ n5 : Int, (v1 = (.int .i64 n5)) ∧ (internal_stringslite_Index.k14 n5 K h2 n2 s0 b2 s1 n3 I0 n4 x0 h1)))
def internal_stringslite_Index.k16 (n2 : Int) (s0 : ByteArray) : Prop :=
 ((0 : Int) ≤ (IntKind.wrap .i64 (n2 + 1))) ∧ ((IntKind.wrap .i64 (n2 + 1)) ≤ (s0.size : Int)) ∧ False
def internal_stringslite_Index.k17 (n13 : Int) (K : Value → Hp → Prop) (h6 : Hp) (n2 : Int) : Prop :=
 bcase (decide (n13 < 0))
 (K (.int .i64 (-1)) h6)
 (K (.int .i64 (IntKind.wrap .i64 ((IntKind.wrap .i64 (n2 + 1)) + n13))) h6)
def internal_stringslite_Index.k18 (n2 : Int) (s0 : ByteArray) (s1 : ByteArray) (h5 : Hp) (K : Value → Hp → Prop) : Prop :=
 ((0 : Int) ≤ (IntKind.wrap .i64 (n2 + 1))) ∧ ((IntKind.wrap .i64 (n2 + 1)) ≤ (s0.size : Int)) ∧ HC P internal_bytealg_IndexRabinKarp_string.n #[.string (⟨((#[] ++ Array.extract (ByteArray.data s0) ((IntKind.wrap .i64 (n2 + 1)).toNat) ((IntKind.wrap .i64 (n2 + 1)).toNat + (s0.size - (IntKind.wrap .i64 (n2 + 1)).toNat))) ++ Array.extract #[] (0 + Min.min (s0.size - (IntKind.wrap .i64 (n2 + 1)).toNat) ((ByteArray.data s0).size - (IntKind.wrap .i64 (n2 + 1)).toNat)) 0)⟩ : ByteArray), .string s1] h5 (fun v5 h6 => (∃ n13 : Int, (v5 = (.int .i64 n13)) ∧ (internal_stringslite_Index.k17 n13 K h6 n2)))
def internal_stringslite_Index.k19 (I0 : List Value → Hp → Prop) (n2 : Int) (n3 : Int) (n4 : Int) (h5 : Hp) (x0 : List Value → Hp → Nat) (h1 : Hp) : Prop :=
 (I0 [.int .i64 (IntKind.wrap .i64 (n2 + 1)), .int .i64 (IntKind.wrap .i64 (n3 + 1)), .int .i64 n4] h5) ∧ (x0 [.int .i64 (IntKind.wrap .i64 (n2 + 1)), .int .i64 (IntKind.wrap .i64 (n3 + 1)), .int .i64 n4] h5) < (x0 [.int .i64 n2, .int .i64 n3, .int .i64 n4] h1)
def internal_stringslite_Index.k20 (n2 : Int) (s0 : ByteArray) (s1 : ByteArray) (h5 : Hp) (K : Value → Hp → Prop) (I0 : List Value → Hp → Prop) (n3 : Int) (n4 : Int) (x0 : List Value → Hp → Nat) (h1 : Hp) : Prop :=
 bcase (decide ((IntKind.wrap .i64 (n2 + 1)) < (IntKind.wrap .i64 ((IntKind.wrap .i64 ((s0.size : Int) - (s1.size : Int))) + 1))))
 ((internal_stringslite_Index.k18 n2 s0 s1 h5 K))
 ((internal_stringslite_Index.k19 I0 n2 n3 n4 h5 x0 h1))
def internal_stringslite_Index.k21 (n2 : Int) (n3 : Int) (s0 : ByteArray) (s1 : ByteArray) (h5 : Hp) (K : Value → Hp → Prop) (I0 : List Value → Hp → Prop) (n4 : Int) (x0 : List Value → Hp → Nat) (h1 : Hp) : Prop :=
 ((0 : Int) ≤ 4) ∧ bcase (decide ((IntKind.wrap .i64 (4 + Int.fdiv (IntKind.wrap .i64 (n2 + 1)) (2 ^ Min.min ((4 : Int).toNat) 64))) ≤ (IntKind.wrap .i64 (n3 + 1))))
 ((internal_stringslite_Index.k20 n2 s0 s1 h5 K I0 n3 n4 x0 h1))
 ((internal_stringslite_Index.k19 I0 n2 n3 n4 h5 x0 h1))
def internal_stringslite_Index.k22 (h5 : Hp) (s1 : ByteArray) (n2 : Int) (n3 : Int) (s0 : ByteArray) (K : Value → Hp → Prop) (I0 : List Value → Hp → Prop) (n4 : Int) (x0 : List Value → Hp → Nat) (h1 : Hp) : Prop :=
 (∃ n12 : Int, ((h5.cell? ⟨0, 0, none⟩) = (some (.int .i64 n12))) ∧ bcase (decide (n12 < (s1.size : Int)))
 ((internal_stringslite_Index.k21 n2 n3 s0 s1 h5 K I0 n4 x0 h1))
 ((internal_stringslite_Index.k19 I0 n2 n3 n4 h5 x0 h1)))
def internal_stringslite_Index.k23 (n11 : Int) (n3 : Int) (n2 : Int) (s0 : ByteArray) (h5 : Hp) (s1 : ByteArray) (K : Value → Hp → Prop) (I0 : List Value → Hp → Prop) (n4 : Int) (x0 : List Value → Hp → Nat) (h1 : Hp) : Prop :=
 bcase (decide (n11 < (IntKind.wrap .i64 (n3 + 1))))
 ((internal_stringslite_Index.k16 n2 s0))
 ((internal_stringslite_Index.k22 h5 s1 n2 n3 s0 K I0 n4 x0 h1))
def internal_stringslite_Index.k24 (n2 : Int) (h1 : Hp) (n3 : Int) (s0 : ByteArray) (s1 : ByteArray) (K : Value → Hp → Prop) (I0 : List Value → Hp → Prop) (n4 : Int) (x0 : List Value → Hp → Nat) : Prop :=
 HC P internal_bytealg_Cutover.n #[.int .i64 (IntKind.wrap .i64 (n2 + 1))] h1 (fun v4 h5 => (∃ n11 : Int, (v4 = (.int .i64 n11)) ∧ (internal_stringslite_Index.k23 n11 n3 n2 s0 h5 s1 K I0 n4 x0 h1)))
def internal_stringslite_Index.k25 (I0 : List Value → Hp → Prop) (n2 : Int) (n3 : Int) (n4 : Int) (h1 : Hp) (x0 : List Value → Hp → Nat) : Prop :=
 (I0 [.int .i64 (IntKind.wrap .i64 (n2 + 1)), .int .i64 (IntKind.wrap .i64 (n3 + 1)), .int .i64 n4] h1) ∧ (x0 [.int .i64 (IntKind.wrap .i64 (n2 + 1)), .int .i64 (IntKind.wrap .i64 (n3 + 1)), .int .i64 n4] h1) < (x0 [.int .i64 n2, .int .i64 n3, .int .i64 n4] h1)
def internal_stringslite_Index.k26 (n2 : Int) (s0 : ByteArray) (s1 : ByteArray) (h1 : Hp) (K : Value → Hp → Prop) (I0 : List Value → Hp → Prop) (n3 : Int) (n4 : Int) (x0 : List Value → Hp → Nat) : Prop :=
 bcase (decide ((IntKind.wrap .i64 (n2 + 1)) < (IntKind.wrap .i64 ((IntKind.wrap .i64 ((s0.size : Int) - (s1.size : Int))) + 1))))
 ((internal_stringslite_Index.k18 n2 s0 s1 h1 K))
 ((internal_stringslite_Index.k25 I0 n2 n3 n4 h1 x0))
def internal_stringslite_Index.k27 (n2 : Int) (n3 : Int) (s0 : ByteArray) (s1 : ByteArray) (h1 : Hp) (K : Value → Hp → Prop) (I0 : List Value → Hp → Prop) (n4 : Int) (x0 : List Value → Hp → Nat) : Prop :=
 ((0 : Int) ≤ 4) ∧ bcase (decide ((IntKind.wrap .i64 (4 + Int.fdiv (IntKind.wrap .i64 (n2 + 1)) (2 ^ Min.min ((4 : Int).toNat) 64))) ≤ (IntKind.wrap .i64 (n3 + 1))))
 ((internal_stringslite_Index.k26 n2 s0 s1 h1 K I0 n3 n4 x0))
 ((internal_stringslite_Index.k25 I0 n2 n3 n4 h1 x0))
def internal_stringslite_Index.k28 (h1 : Hp) (s1 : ByteArray) (n2 : Int) (n3 : Int) (s0 : ByteArray) (K : Value → Hp → Prop) (I0 : List Value → Hp → Prop) (n4 : Int) (x0 : List Value → Hp → Nat) : Prop :=
 (∃ n14 : Int, ((h1.cell? ⟨0, 0, none⟩) = (some (.int .i64 n14))) ∧ bcase (decide (n14 < (s1.size : Int)))
 ((internal_stringslite_Index.k27 n2 n3 s0 s1 h1 K I0 n4 x0))
 ((internal_stringslite_Index.k25 I0 n2 n3 n4 h1 x0)))
def internal_stringslite_Index.k29 (h1 : Hp) (s1 : ByteArray) (n2 : Int) (n3 : Int) (s0 : ByteArray) (K : Value → Hp → Prop) (I0 : List Value → Hp → Prop) (n4 : Int) (x0 : List Value → Hp → Nat) : Prop :=
 (∃ n10 : Int, ((h1.cell? ⟨0, 0, none⟩) = (some (.int .i64 n10))) ∧ bcase (decide ((s1.size : Int) ≤ n10))
 ((internal_stringslite_Index.k24 n2 h1 n3 s0 s1 K I0 n4 x0))
 ((internal_stringslite_Index.k28 h1 s1 n2 n3 s0 K I0 n4 x0)))
def internal_stringslite_Index.k30 (n2 : Int) (s1 : ByteArray) (s0 : ByteArray) (K : Value → Hp → Prop) (h1 : Hp) (n3 : Int) (I0 : List Value → Hp → Prop) (n4 : Int) (x0 : List Value → Hp → Nat) : Prop :=
 ((0 : Int) ≤ (IntKind.wrap .i64 (n2 + (s1.size : Int)))) ∧ ((IntKind.wrap .i64 (n2 + (s1.size : Int))) ≤ (s0.size : Int)) ∧ ((0 : Int) ≤ n2) ∧ (n2 ≤ ((IntKind.wrap .i64 (n2 + (s1.size : Int))).toNat : Int)) ∧ bcase (((ByteArray.toList (⟨((#[] ++ Array.extract (ByteArray.data s0) n2.toNat (n2.toNat + ((IntKind.wrap .i64 (n2 + (s1.size : Int))).toNat - n2.toNat))) ++ Array.extract #[] (0 + Min.min ((IntKind.wrap .i64 (n2 + (s1.size : Int))).toNat - n2.toNat) ((ByteArray.data s0).size - n2.toNat)) 0)⟩ : ByteArray)) == (ByteArray.toList s1)))
 (K (.int .i64 n2) h1)
 ((internal_stringslite_Index.k29 h1 s1 n2 n3 s0 K I0 n4 x0))
def internal_stringslite_Index.k31 (n2 : Int) (s0 : ByteArray) (b2 : UInt8) (s1 : ByteArray) (K : Value → Hp → Prop) (h1 : Hp) (n3 : Int) (I0 : List Value → Hp → Prop) (n4 : Int) (x0 : List Value → Hp → Nat) : Prop :=
 ((0 : Int) ≤ (IntKind.wrap .i64 (n2 + 1))) ∧ (∃ b5 : UInt8, ((s0[(IntKind.wrap .i64 (n2 + 1)).toNat]?) = (some b5)) ∧ bcase (((b5.toNat : Int) == (b2.toNat : Int)))
 ((internal_stringslite_Index.k30 n2 s1 s0 K h1 n3 I0 n4 x0))
 ((internal_stringslite_Index.k29 h1 s1 n2 n3 s0 K I0 n4 x0)))
def internal_stringslite_Index.k32 (n2 : Int) (s0 : ByteArray) (b1 : UInt8) (s1 : ByteArray) (h1 : Hp) (K : Value → Hp → Prop) (b2 : UInt8) (n3 : Int) (I0 : List Value → Hp → Prop) (n4 : Int) (x0 : List Value → Hp → Nat) : Prop :=
 ((0 : Int) ≤ n2) ∧ (∃ b3 : UInt8, (s0[n2.toNat]? = (some b3)) ∧ bcase (((b3.toNat : Int) != (b1.toNat : Int)))
 ((internal_stringslite_Index.k15 s0 s1 n2 b1 h1 K b2 n3 I0 n4 x0))
 ((internal_stringslite_Index.k31 n2 s0 b2 s1 K h1 n3 I0 n4 x0)))
def internal_stringslite_Index.k33 (s1 : ByteArray) (h : Hp) (s0 : ByteArray) (K : Value → Hp → Prop) : Prop :=
 ((0 : Int) ≤ 0) ∧ (∃ b1 : UInt8, ((s1[(0 : Int).toNat]?) = (some b1)) ∧ ((0 : Int) ≤ 1) ∧ (∃ b2 : UInt8, ((s1[(1 : Int).toNat]?) = (some b2)) ∧ (∃ I0 : List Value → Hp → Prop, (∃ x0 : List Value → Hp → Nat, (I0 [.int .i64 0, .int .i64 0, .int .i64 0] h) ∧ (∀ h1 : Hp, (∀ n2 : Int, (∀ n3 : Int, (∀ n4 : Int, (I0 [.int .i64 n2, .int .i64 n3, .int .i64 n4] h1 → bcase (decide (n2 < (IntKind.wrap .i64 ((IntKind.wrap .i64 ((s0.size : Int) - (s1.size : Int))) + 1))))
 ((internal_stringslite_Index.k32 n2 s0 b1 s1 h1 K b2 n3 I0 n4 x0))
 (K (.int .i64 (-1)) h1))))))))))
def internal_stringslite_Index.k34 (s0 : ByteArray) (s1 : ByteArray) (h : Hp) (K : Value → Hp → Prop) : Prop :=
 bcase (decide ((s0.size : Int) ≤ 64))
 (False)
 ((internal_stringslite_Index.k33 s1 h s0 K))
def internal_stringslite_Index.k35 (h : Hp) (s1 : ByteArray) (s0 : ByteArray) (K : Value → Hp → Prop) : Prop :=
 (∃ n1 : Int, ((h.cell? ⟨0, 0, none⟩) = (some (.int .i64 n1))) ∧ bcase (decide ((s1.size : Int) ≤ n1))
 ((internal_stringslite_Index.k34 s0 s1 h K))
 ((internal_stringslite_Index.k33 s1 h s0 K)))
def internal_stringslite_Index.k36 (s0 : ByteArray) (s1 : ByteArray) (K : Value → Hp → Prop) (h : Hp) : Prop :=
 bcase (decide ((s0.size : Int) ≤ (s1.size : Int)))
 (K (.int .i64 (-1)) h)
 ((internal_stringslite_Index.k35 h s1 s0 K))
def internal_stringslite_Index.k37 (s1 : ByteArray) (s0 : ByteArray) (h : Hp) (K : Value → Hp → Prop) : Prop :=
 bcase (((s1.size : Int) == 1))
 ((internal_stringslite_Index.k0 s1 s0 h K))
 ((internal_stringslite_Index.k36 s0 s1 K h))
def internal_stringslite_Index.k38 (s1 : ByteArray) (s0 : ByteArray) (K : Value → Hp → Prop) (h : Hp) : Prop :=
 bcase (((ByteArray.toList s1) == (ByteArray.toList s0)))
 (K (.int .i64 0) h)
 ((internal_stringslite_Index.k37 s1 s0 h K))
def internal_stringslite_Index (s0 : ByteArray) (s1 : ByteArray) (K : Value → Hp → Prop) (h : Hp) : Prop :=
 bcase (((s1.size : Int) == 0))
 (K (.int .i64 0) h)
 ((internal_stringslite_Index.k38 s1 s0 K h))
theorem internal_stringslite_Index.hc {s0 : ByteArray} {s1 : ByteArray} {K : Value → Hp → Prop} {h : Hp} (hh : internal_stringslite_Index s0 s1 K h) : HC P internal_stringslite_Index.n #[.string s0, .string s1] h K :=
  HC_of_den (fn := Go.Proofs.Tryz.f96) (args := [.string s0, .string s1]) Go.Proofs.Tryz.func96 rfl (Nat.le_of_ble_eq_true (by kernel_rfl)) (den_cast hh (by kernel_rfl))
-- NOT WRITTEN 86 strconv_syntaxError
end
end Go.Den.Mon
end

section
set_option linter.unusedVariables false
set_option maxRecDepth 100000
namespace Go.Den.Mon
open Go Go.Den
noncomputable section
def strconv_FormatUint (n0 : Int) (n1 : Int) (K : Value → Hp → Prop) (h : Hp) : Prop :=
 HC P internal_strconv_FormatUint.n #[.int .u64 n0, .int .i64 n1] h (fun v0 h0 => (∃ s0 : ByteArray, (v0 = (.string s0)) ∧ K (.string s0) h0))
theorem strconv_FormatUint.hc {n0 : Int} {n1 : Int} {K : Value → Hp → Prop} {h : Hp} (hh : strconv_FormatUint n0 n1 K h) : HC P strconv_FormatUint.n #[.int .u64 n0, .int .i64 n1] h K :=
  HC_of_den (fn := Go.Proofs.Tryz.f63) (args := [.int .u64 n0, .int .i64 n1]) Go.Proofs.Tryz.func63 rfl (Nat.le_of_ble_eq_true (by kernel_rfl)) (den_cast hh (by kernel_rfl))
def internal_strconv_FormatUint.k0 (n0 : Int) (h : Hp) (K : Value → Hp → Prop) : Prop :=
 HC P internal_strconv_small.n #[.int .i64 (IntKind.wrap .i64 n0)] h (fun v0 h0 => (∃ s0 : ByteArray, (v0 = (.string s0)) ∧ K (.string s0) h0))
def internal_strconv_FormatUint.k1 (n2 : Int) (b0 : Nat) (K : Value → Hp → Prop) (h2 : Hp) : Prop :=
 ((0 : Int) ≤ n2) ∧ (n2 ≤ (24 : Int)) ∧ wpSem P (convDark T.sl_uint8 T.string (.slice (Den.offA (some ⟨b0, 0, none⟩) 24 0 1) (n2.toNat - 0) 24)) (fun v3 h3 => (∃ s1 : ByteArray, (v3 = (.string s1)) ∧ K (.string s1) h3)) h2
def internal_strconv_FormatUint.k2 (n2 : Int) (b0 : Nat) (n0 : Int) (h1 : Hp) (K : Value → Hp → Prop) : Prop :=
 ((0 : Int) ≤ n2) ∧ (n2 ≤ (24 : Int)) ∧ HC P internal_strconv_formatBase10.n #[.slice (Den.offA (some ⟨b0, 0, none⟩) 24 0 1) (n2.toNat - 0) 24, .int .u64 n0] h1 (fun v2 h2 => (internal_strconv_FormatUint.k1 n2 b0 K h2))
def internal_strconv_FormatUint.k3 (h : Hp) (n0 : Int) (K : Value → Hp → Prop) : Prop :=
 (∀ b0 : Nat, ((h b0) = none → HC P internal_strconv_numDigits.n #[.int .u64 n0] (h.put b0 (.cells #[.int .u8 0, .int .u8 0, .int .u8 0, .int .u8 0, .int .u8 0, .int .u8 0, .int .u8 0, .int .u8 0, .int .u8 0, .int .u8 0, .int .u8 0, .int .u8 0, .int .u8 0, .int .u8 0, .int .u8 0, .int .u8 0, .int .u8 0, .int .u8 0, .int .u8 0, .int .u8 0, .int .u8 0, .int .u8 0, .int .u8 0, .int .u8 0] T.t24_uint8 (0, 0))) (fun v1 h1 => (∃ n2 : Int, (v1 = (.int .i64 n2)) ∧ (internal_strconv_FormatUint.k2 n2 b0 n0 h1 K)))))
def internal_strconv_FormatUint.k4 (n0 : Int) (h : Hp) (K : Value → Hp → Prop) : Prop :=
 bcase (decide (n0 < 100))
 ((internal_strconv_FormatUint.k0 n0 h K))
 ((internal_strconv_FormatUint.k3 h n0 K))
def internal_strconv_FormatUint.k5 (n0 : Int) (n1 : Int) (h : Hp) (K : Value → Hp → Prop) : Prop :=
 HC P internal_strconv_formatBits.n #[.slice none 0 0, .int .u64 n0, .int .i64 n1, .bool Bool.false, .bool Bool.false] h (fun v4 h4 => (∃ a0 : Option Addr, (∃ n3 : Nat, (∃ c0 : Nat, (∃ s2 : ByteArray, (v4 = (.tuple #[.slice a0 n3 c0, .string s2])) ∧ K (.string s2) h4)))))
def internal_strconv_FormatUint (n0 : Int) (n1 : Int) (K : Value → Hp → Prop) (h : Hp) : Prop :=
 bcase ((n1 == 10))
 ((internal_strconv_FormatUint.k4 n0 h K))
 ((internal_strconv_FormatUint.k5 n0 n1 h K))
theorem internal_strconv_FormatUint.hc {n0 : Int} {n1 : Int} {K : Value → Hp → Prop} {h : Hp} (hh : internal_strconv_FormatUint n0 n1 K h) : HC P internal_strconv_FormatUint.n #[.int .u64 n0, .int .i64 n1] h K :=
  HC_of_den (fn := Go.Proofs.Tryz.f79) (args := [.int .u64 n0, .int .i64 n1]) Go.Proofs.Tryz.func79 rfl (Nat.le_of_ble_eq_true (by kernel_rfl)) (den_cast hh (by kernel_rfl))
end
end Go.Den.Mon
end

section
set_option linter.unusedVariables false
set_option maxRecDepth 100000
namespace Go.Den.Mon
open Go Go.Den
variable {h : Hp} {K : Value → Hp → Prop}
structure Env (h : Hp) : Prop where
  tabs : Tabs h
  tz : h.cell? ⟨8, 15, none⟩ = some (.int .u8 4)
  err : ∃ ev, h.cell? ⟨1, 0, none⟩ = some ev ∧ (ev = .nilIface ∨ ∃ te pe, ev = .iface te pe)
theorem cell_stepH {h h' : Hp} {o : List Nat} (s : Step [] h o h') {a : Addr} {v : Value} (hc : h.cell? a = some v) : h'.cell? a = some v := by
  rw [← hc]
  refine cell_block rfl (s.keep _ (fun e => ?_) (by simp))
  unfold Hp.cell? at hc
  rw [e] at hc; cases hc
theorem Env.step {h h' : Hp} {o : List Nat} (e : Env h) (s : Step [] h o h') : Env h' := by
  obtain ⟨a, b, ev, c, d⟩ := e
  exact ⟨a.step s.forget0, cell_stepH s b, ev, cell_stepH s c, d⟩
theorem repeat_spec {c : Nat} (hc : c ≤ 1000) (hk : ∀ h', Step [] h [] h' → K (.string ⟨(Lib.repeatL [48] c).toArray⟩) h') : HC P strings_Repeat.n #[.string (⟨#[48]⟩ : ByteArray), .int .i64 (c : Int)] h K :=
  HC_of_calls fun w hw => (Go.Proofs.Tryz.strings_Repeat ⟨#[48]⟩ c w (by omega) (by show 1 * c ≤ _; omega)).mono fun e w' ⟨he, hb⟩ => ⟨_, he, hb, hk⟩
theorem toError_spec (en : Env h) {s fn : ByteArray} {b0 b1 : Int} (hs : s.size ≤ 1000) (hk : ∀ t v h', Step [] h [] h' → K (.iface t v) h') : HC P strconv_toError.n #[.string fn, .string s, .int .i64 b0, .int .i64 b1, .iface 159 (.int .i64 2)] h K := by
  obtain ⟨ev, e1, e2⟩ := en.err
  exact HC_of_calls fun w hw => (Go.Proofs.Tryz.strconv_toError_syntax fn s b0 b1 ev w (by omega) (by rw [← hp_cell?, hw]; exact e1) e2).mono fun e w' ⟨N, he, _, _, hb⟩ => ⟨_, he, hb, fun h' s => hk _ _ h' s⟩
/-! ### Digits -/
def hf (n : Nat) : Nat → List UInt8
  | 0 => []
  | k + 1 => hexc (n / 16 ^ k % 16) :: hf n k
theorem hf_len {n : Nat} : ∀ {k : Nat}, (hf n k).length = k
  | 0 => rfl
  | k + 1 => by simp [hf, hf_len (n := n) (k := k)]
theorem repL {c : Nat} {b : UInt8} : Lib.repeatL [b] c = List.replicate c b := by
  induction c with
  | zero => rfl
  | succ c ih => rw [List.replicate_succ, ← ih]; rfl
theorem hf_pad {n d : Nat} (hn : n < 16 ^ d) : ∀ {e : Nat}, hf n (d + e) = List.replicate e (48 : UInt8) ++ hf n d
  | 0 => rfl
  | e + 1 => by
    show hexc (n / 16 ^ (d + e) % 16) :: hf n (d + e) = _
    have h1 : 16 ^ d ≤ 16 ^ (d + e) := Nat.pow_le_pow_right (by omega) (by omega)
    have : n / 16 ^ (d + e) = 0 := Nat.div_eq_of_lt (by omega)
    rw [this, hf_pad hn, List.replicate_succ]
    rfl
theorem and15 {m : Nat} (hm : m < 18446744073709551616) : bits .and .u64 (m : Int) 15 = ((m % 16 : Nat) : Int) := by
  have := bits_and_u64_nat m 15 hm (by omega)
  rw [show m &&& 15 = m % 16 from Nat.and_two_pow_sub_one_eq_mod m 4] at this
  exact this
theorem fdiv_n {m : Nat} : Int.fdiv (m : Int) (2 ^ Min.min ((4 : Int).toNat) 64) = ((m / 16 : Nat) : Int) := by
  show Int.fdiv (m : Int) ((16 : Nat) : Int) = _
  rw [Int.fdiv_eq_ediv_of_nonneg _ (by omega)]
  rfl
abbrev alph : ByteArray := ⟨#[48, 49, 50, 51, 52, 53, 54, 55, 56, 57, 97, 98, 99, 100, 101, 102, 103, 104, 105, 106, 107, 108, 109, 110, 111, 112, 113, 114, 115, 116, 117, 118, 119, 120, 121, 122]⟩
theorem alphs : ((List.range 16).all fun d => alph[d]? == some (hexc d)) = true := by decide +kernel
theorem alph_get {d : Nat} (hd : d < 16) : alph[d]? = some (hexc d) := by simpa using List.all_eq_true.1 alphs d (List.mem_range.2 hd)
theorem tz_spec (en : Env h) (hk : K (.int .i64 4) h) : HC P math_bits_TrailingZeros.n #[.int .u64 16] h K := by
  refine math_bits_TrailingZeros.hc ?_
  unfold math_bits_TrailingZeros
  refine math_bits_TrailingZeros64.hc ?_
  unfold math_bits_TrailingZeros64
  refine bcF rfl ?_
  unfold math_bits_TrailingZeros64.k0
  have e : (Int.fdiv (IntKind.wrap .u64 ((bits .and .u64 16 (IntKind.wrap .u64 (0 - 16))) * 285870213051353865)) (2 ^ Min.min ((58 : Int).toNat) 64)) = 15 := by decide +kernel
  rw [e]
  refine ⟨by omega, by omega, by omega, 4, ?_, _, rfl, ?_⟩
  · show h.cell? ((⟨8, 0, none⟩ : Addr).add 15) = _
    rw [Addr.add_mk]; exact en.tz
  · rw [show IntKind.wrap .i64 4 = 4 from by decide +kernel]; exact hk
end Go.Den.Mon
end

section
set_option linter.unusedVariables false
set_option maxRecDepth 100000
namespace Go.Den.Mon
open Go Go.Den
variable {h : Hp} {K : Value → Hp → Prop}
theorem fb_set {h2 : Hp} {b2 j n : Nat} {pre : List Value} (hb : h2 b2 = some (.cells (pre ++ bvs (hf n j)).toArray T.t65_uint8 (0, 0))) (hp : pre.length = 65 - j) (hj : j < 65) :
    ∃ pre', pre'.length = 64 - j ∧ (∃ u, h2.cell? ⟨b2, 64 - j, none⟩ = some u) ∧ h2.frozen? ⟨b2, 64 - j, none⟩ = false ∧
      (h2.setCell ⟨b2, 64 - j, none⟩ (.int .u8 ((hexc (n / 16 ^ j % 16)).toNat : Int))) b2 = some (.cells (pre' ++ bvs (hf n (j + 1))).toArray T.t65_uint8 (0, 0)) := by
  obtain ⟨pre', u, rfl⟩ : ∃ pre' u, pre = pre' ++ [u] := ⟨pre.dropLast, pre.getLast (List.ne_nil_of_length_pos (by omega)), (List.dropLast_concat_getLast _).symm⟩
  have hp' : pre'.length = 64 - j := by simp at hp; omega
  refine ⟨pre', hp', ⟨u, ?_⟩, frozen_of hb, ?_⟩
  · rw [cell_of hb, List.getElem?_toArray, ← hp']
    simp
  · rw [setCell_blk hb]
    have := set_split (pre := pre') (post := bvs (hf n j)) (u := u) (v := Value.int .u8 ((hexc (n / 16 ^ j % 16)).toNat : Int)) hp'
    simp only [List.append_assoc, List.singleton_append]
    rw [this]
    rfl
theorem formatBits_spec (en : Env h) {n : Nat} (hn : n < 18446744073709551616) (hk : ∀ d h', 1 ≤ d → d ≤ 16 → n < 16 ^ d → Step [] h [] h' → K (.tuple #[.slice none 0 0, .string ⟨(hf n d).toArray⟩]) h') :
    HC P internal_strconv_formatBits.n #[.slice none 0 0, .int .u64 (n : Int), .int .i64 16, .bool false, .bool false] h K := by
  refine internal_strconv_formatBits.hc ?_
  unfold internal_strconv_formatBits
  refine bcF rfl ?_
  unfold internal_strconv_formatBits.k21
  refine bcF rfl ?_
  unfold internal_strconv_formatBits.k20
  refine bcF rfl ?_
  unfold internal_strconv_formatBits.k19
  intro b2 hb2
  refine bcF rfl ?_
  unfold internal_strconv_formatBits.k18
  refine internal_strconv_isPowerOfTwo.hc ?_
  unfold internal_strconv_isPowerOfTwo
  refine ⟨_, rfl, ?_⟩
  unfold internal_strconv_formatBits.k17
  refine bcT (by decide +kernel) ?_
  unfold internal_strconv_formatBits.k15
  rw [show IntKind.wrap .u64 16 = 16 from by decide +kernel]
  refine tz_spec (en.step (Step.put (.inr hb2))) ⟨4, rfl, ?_⟩
  obtain ⟨I0, hI0⟩ : ∃ I0 : List Value → Hp → Prop, I0 = fun vs hh => ∃ (j : Nat) (pre : List Value), vs = [.int .i64 ((65 - j : Nat) : Int), .int .u64 ((n / 16 ^ j : Nat) : Int)] ∧ j ≤ 15 ∧ pre.length = 65 - j ∧ hh b2 = some (.cells (pre ++ bvs (hf n j)).toArray T.t65_uint8 (0, 0)) ∧ Step [] h [b2] hh := ⟨_, rfl⟩
  obtain ⟨x0, hx0⟩ : ∃ x0 : List Value → Hp → Nat, x0 = fun vs _ => match vs with | [_, .int _ i] => i.toNat | _ => 0 := ⟨_, rfl⟩
  refine ⟨I0, x0, ?_⟩
  unfold internal_strconv_formatBits.k14
  refine ⟨?_, ?_⟩
  · rw [hI0]
    refine ⟨0, List.replicate 65 (.int .u8 0), by simp, by omega, by simp, by rw [put_self]; rfl, Step.new hb2⟩
  intro h2 n3 n4 hin
  rw [hI0] at hin
  obtain ⟨j, pre, he, hj, hp, hb, st⟩ := hin
  have e1 : n3 = ((65 - j : Nat) : Int) ∧ n4 = ((n / 16 ^ j : Nat) : Int) := by cases he; exact ⟨rfl, rfl⟩
  clear he
  obtain ⟨rfl, rfl⟩ := e1
  obtain ⟨pre', p1, p2, p3, p4⟩ := fb_set hb hp (by omega)
  have hw : IntKind.wrap .i64 (((65 - j : Nat) : Int) - 1) = ((64 - j : Nat) : Int) := wrapN (by omega) (by omega)
  rw [show IntKind.wrap .u64 16 = 16 from by decide +kernel]
  have hle : n / 16 ^ j ≤ n := Nat.div_le_self _ _
  refine bcase_intro (fun hc => ?_) fun hc => ?_
  · have hc : 16 ≤ n / 16 ^ j := by have := of_decide_eq_true hc; omega
    have hs : n / 16 ^ j / 16 = n / 16 ^ (j + 1) := by rw [Nat.div_div_eq_div_mul, Nat.pow_succ]
    unfold internal_strconv_formatBits.k0
    rw [show IntKind.wrap .u64 (IntKind.wrap .u64 16 - 1) = 15 from by decide +kernel, show IntKind.wrap .u64 4 = 4 from by decide +kernel, and15 (by omega), fdiv_n, hw, hs]
    simp only [Int.toNat_natCast, Nat.mul_one, Addr.add_mk, Nat.zero_add]
    have hj15 : j + 1 ≤ 15 := by
      rcases Nat.lt_or_ge j 15 with q | q
      · omega
      · obtain rfl : j = 15 := by omega
        have : n / 16 ^ 15 < 16 := Nat.div_lt_of_lt_mul (by rw [← Nat.pow_succ]; exact hn)
        omega
    refine ⟨by omega, hexc (n / 16 ^ j % 16), alph_get (by omega), by omega, by omega, p2, p3, by omega, ?_, ?_⟩
    · rw [hI0]
      exact ⟨j + 1, pre', by rw [show 65 - (j + 1) = 64 - j by omega], hj15, by omega, p4, st.trans (Step.setCell hb (by simp))⟩
    · rw [hx0]
      show (((n / 16 ^ (j + 1) : Nat)) : Int).toNat < ((n / 16 ^ j : Nat) : Int).toNat
      rw [← hs]; omega
  · have hc : n / 16 ^ j < 16 := by have := of_decide_eq_false hc; omega
    have hm : n / 16 ^ j % 16 = n / 16 ^ j := Nat.mod_eq_of_lt hc
    unfold internal_strconv_formatBits.k7
    rw [hw]
    simp only [Int.toNat_natCast, Nat.mul_one, Addr.add_mk, Nat.zero_add]
    refine ⟨by omega, hexc (n / 16 ^ j), alph_get hc, by omega, by omega, p2, p3, bcF rfl ?_⟩
    unfold internal_strconv_formatBits.k6
    refine bcF rfl ?_
    unfold internal_strconv_formatBits.k5
    rw [hw]
    simp only [Int.toNat_natCast, Nat.mul_one, Addr.add_mk, Nat.zero_add]
    rw [hm] at p4
    refine ⟨by omega, by omega, ?_⟩
    have S := st.trans (Step.setCell (o := 64 - j) (v := .int .u8 ((hexc (n / 16 ^ j)).toNat : Int)) hb (by simp))
    have full : SrcAt (h2.setCell ⟨b2, 64 - j, none⟩ (.int .u8 ((hexc (n / 16 ^ j)).toNat : Int))) 1 (.slice (some ⟨b2, 0, none⟩) 65 65) 65 (pre' ++ bvs (hf n (j + 1))) := by
      refine .some ⟨by simp [p1, bvs_len, hf_len]; omega, fun i v hv => ?_⟩
      rw [Addr.add_mk, cell_of p4, Nat.zero_add]; exact hv
    have dr := src_drop (c' := 65 - (64 - j)) full (i := 64 - j) (by omega) (by omega)
    rw [Nat.mul_one, List.drop_left' p1] at dr
    refine bytesStr_wp dr ⟨_, rfl, hk (j + 1) _ (by omega) (by omega) ?_ S.forget0⟩
    have : 0 < 16 ^ j := Nat.pow_pos (by omega)
    rw [Nat.pow_succ]
    have := Nat.lt_mul_of_div_lt hc this
    omega
theorem fmt_spec (en : Env h) {n : Nat} (hn : n < 18446744073709551616) (hk : ∀ d h', 1 ≤ d → d ≤ 16 → n < 16 ^ d → Step [] h [] h' → K (.string ⟨(hf n d).toArray⟩) h') : HC P strconv_FormatUint.n #[.int .u64 (n : Int), .int .i64 16] h K := by
  refine strconv_FormatUint.hc ?_
  unfold strconv_FormatUint
  refine internal_strconv_FormatUint.hc ?_
  unfold internal_strconv_FormatUint
  refine bcF rfl ?_
  unfold internal_strconv_FormatUint.k5
  exact formatBits_spec en hn fun d h' h1 h2 h3 s => ⟨_, _, _, _, rfl, _, rfl, hk d h' h1 h2 h3 s⟩
end Go.Den.Mon
end

