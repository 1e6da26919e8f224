import Derived.Test.YtigpmmikmepcbaaGreatDoorB31
/- Texts that the claim needs, joined. -/
section
set_option linter.unusedVariables false
namespace Go.Den
open Go Go.ChangeShapes Go.WideShapes Go.ChangeAt Go.RowKit
inductive FK
  | int (k : IntKind)
  | bool
  | str
inductive FlatV : FK → Value → Prop
  | int {k : IntKind} {n : Int} : (Lit.int k n).wf = true → FlatV (.int k) (.int k n)
  | bool {b : Bool} : FlatV .bool (.bool b)
  | str {s : ByteArray} : s.size ≤ maxLen → FlatV .str (.string s)
inductive FlatVs : List FK → List Value → Prop
  | nil : FlatVs [] []
  | cons {k : FK} {v : Value} {ks : List FK} {vs : List Value} : FlatV k v → FlatVs ks vs → FlatVs (k :: ks) (v :: vs)
theorem FlatVs.append {a b : List FK} {u v : List Value} (h : FlatVs a u) (k : FlatVs b v) : FlatVs (a ++ b) (u ++ v) := by
  induction h with
  | nil => exact k
  | cons x _ ih => exact .cons x ih
theorem FlatVs.length {a : List FK} {u : List Value} (h : FlatVs a u) : u.length = a.length := by
  induction h with
  | nil => rfl
  | cons _ _ ih => simp [ih]
theorem FlatVs.split {a b : List FK} {u : List Value} (h : FlatVs (a ++ b) u) : ∃ x y, u = x ++ y ∧ FlatVs a x ∧ FlatVs b y := by
  induction a generalizing u with
  | nil => exact ⟨[], u, rfl, .nil, h⟩
  | cons k a ih =>
    cases h with
    | cons h1 h2 =>
      obtain ⟨x, y, rfl, hx, hy⟩ := ih h2
      exact ⟨_ :: x, y, rfl, .cons h1 hx, hy⟩
def flatFs (P : Program) (g : TypeId → Option (List FK)) : List Field → Nat → Option (List FK)
  | [], _ => some []
  | fld :: fs, off => (g fld.type).bind fun l => if (Nat.beq fld.offset off && Nat.beq (P.cellsOf fld.type) l.length) = true then (flatFs P g fs (off + l.length)).map (l ++ ·) else none
def flatK (P : Program) : Nat → TypeId → Option (List FK)
  | 0, _ => none
  | f + 1, t =>
    match P.underlying t with
    | some .bool => some [.bool]
    | some (.int k) => some [.int k]
    | some .string => some [.str]
    | some (.struct fs) => (flatFs P (flatK P f) fs.toList 0).bind fun l => if Nat.beq (P.cellsOf t) l.length = true then some l else none
    | some (.array n e) => (flatK P f e).bind fun l => if (Nat.beq (P.cellsOf e) l.length && Nat.beq (P.cellsOf t) (n * l.length)) = true then some (List.replicate n l).flatten else none
    | _ => none
theorem flat_rows {l : List FK} {m : Nat} : ∀ {n : Nat} {cs : List Value}, cs.length = n * m → (∀ i, i < n → FlatVs l ((cs.drop (i * m)).take m)) → FlatVs (List.replicate n l).flatten cs
  | 0, cs, hl, _ => by
    have : cs = [] := List.length_eq_zero_iff.1 (by omega)
    subst this; exact .nil
  | n + 1, cs, hl, h => by
    rw [Nat.add_mul] at hl
    have h0 := h 0 (by omega)
    rw [Nat.zero_mul, List.drop_zero] at h0
    rw [← List.take_append_drop m cs, List.replicate_succ, List.flatten_cons]
    refine h0.append (flat_rows (m := m) (by rw [List.length_drop]; omega) fun i hi => ?_)
    have := h (i + 1) (by omega)
    rw [List.drop_drop, show m + i * m = (i + 1) * m by rw [Nat.add_mul]; omega]
    exact this
theorem flat_fields {P : Program} {g : TypeId → Option (List FK)} {cs : List Value} {Q : TypeId → List Value → Prop} (hg : ∀ t l r, g t = some l → Q t r → FlatVs l r) : ∀ {fs : List Field} {off : Nat} {l : List FK}, flatFs P g fs off = some l →
    (∀ fld ∈ fs, Q fld.type ((cs.drop fld.offset).take (P.cellsOf fld.type))) → off + l.length = cs.length → FlatVs l (cs.drop off)
  | [], off, l, h, _, hl => by
    cases h
    rw [List.drop_of_length_le (by simp at hl; omega)]; exact .nil
  | fld :: fs, off, l, h, hq, hl => by
    unfold flatFs at h
    rw [Option.bind_eq_some_iff] at h
    obtain ⟨l1, h1, h⟩ := h
    split at h
    case isFalse => cases h
    rename_i hb
    rw [Bool.and_eq_true] at hb
    have ho := Nat.eq_of_beq_eq_true hb.1
    have hc := Nat.eq_of_beq_eq_true hb.2
    rw [Option.map_eq_some_iff] at h
    obtain ⟨l2, h2, rfl⟩ := h
    have a := hg _ _ _ h1 (hq fld (by simp))
    rw [ho, hc] at a
    rw [List.length_append] at hl
    have b := flat_fields hg h2 (fun x hx => hq x (by simp [hx])) (by omega)
    rw [← List.drop_drop] at b
    rw [← List.take_append_drop l1.length (cs.drop off)]
    exact a.append b
theorem flat_of {H : Type} {enc : TypeId × Value → H} {P : Program} {W : World} {base : Nat} {spare : Nat → Bool} {held : Bool} : ∀ (f : Nat) {fuel : Nat} {t : TypeId} {cs : List Value} {x : DataW H × List MemPlace} {ks : List FK}, flatK P f t = some ks →
    DataW.trod enc P W base spare held fuel t cs = some x → FlatVs ks cs
  | 0, _, _, _, _, _, h, _ => by cases h
  | f + 1, fuel, t, cs, x, ks, h, ht => by
    unfold flatK at h
    split at h
    · rename_i hu; cases h
      obtain ⟨b, rfl, -⟩ := DataW.trod_bool hu ht
      exact .cons .bool .nil
    · rename_i k hu; cases h
      obtain ⟨n, rfl, -, hw⟩ := DataW.trod_int hu ht
      exact .cons (.int hw) .nil
    · rename_i hu; cases h
      obtain ⟨s, rfl, -, hw⟩ := DataW.trod_string hu ht
      exact .cons (.str hw) .nil
    · rename_i fs hu
      rw [Option.bind_eq_some_iff] at h
      obtain ⟨l, hl, h⟩ := h
      split at h
      case isFalse => cases h
      rename_i hc
      cases h
      obtain ⟨xs, m, -, -, hlen, hxs, hf⟩ := DataW.trod_struct hu ht
      have := flat_fields (Q := fun t r => ∃ y, DataW.trod enc P W base spare held m t r = some y) (cs := cs) (fun t l r h1 ⟨y, h2⟩ => flat_of f h1 h2) hl (fun fld hfl => ?_) (by rw [hlen, Nat.zero_add, Nat.eq_of_beq_eq_true hc])
      · simpa using this
      · obtain ⟨i, hi⟩ := List.mem_iff_getElem?.1 hfl
        have hi' : fs[i]? = some fld := by simpa using hi
        have hlt := (Array.getElem?_eq_some_iff.1 hi').1
        exact ⟨xs[i]'(by omega), by rw [hf i fld hi']; exact List.getElem?_eq_getElem _⟩
    · rename_i n e hu
      rw [Option.bind_eq_some_iff] at h
      obtain ⟨l, hl, h⟩ := h
      split at h
      case isFalse => cases h
      rename_i hc
      rw [Bool.and_eq_true] at hc
      have c1 := Nat.eq_of_beq_eq_true hc.1
      have c2 := Nat.eq_of_beq_eq_true hc.2
      cases h
      obtain ⟨xs, m, -, -, hlen, hxs, hf⟩ := DataW.trod_array hu ht
      refine flat_rows (m := l.length) (by rw [hlen, c2]) fun i hi => ?_
      have := hf i hi
      rw [c1, List.getElem?_eq_getElem (by omega)] at this
      exact flat_of f hl this
    · cases h
theorem wf_u8 {n : Int} (h : (Lit.int .u8 n).wf = true) : ∃ m : Nat, n = m ∧ m < 256 := by
  simp [Lit.wf, IntKind.min, IntKind.max, IntKind.signed, IntKind.bits] at h
  exact ⟨n.toNat, by omega, by omega⟩
theorem wf_u64 {n : Int} (h : (Lit.int .u64 n).wf = true) : ∃ m : Nat, n = m ∧ m < 18446744073709551616 := by
  simp [Lit.wf, IntKind.min, IntKind.max, IntKind.signed, IntKind.bits] at h
  exact ⟨n.toNat, by omega, by omega⟩
theorem wf_i64 {n : Int} (h : (Lit.int .i64 n).wf = true) : -9223372036854775808 ≤ n ∧ n < 9223372036854775808 := by
  simp [Lit.wf, IntKind.min, IntKind.max, IntKind.signed, IntKind.bits] at h
  omega
theorem bytes_of : ∀ {n : Nat} {r : List Value}, FlatVs (List.replicate n (.int .u8)) r → ∃ g : List Nat, r = g.map (fun (x : Nat) => .int .u8 (x : Int)) ∧ g.length = n ∧ ∀ x ∈ g, x < 256
  | 0, r, h => by cases h; exact ⟨[], rfl, rfl, by simp⟩
  | n + 1, r, h => by
    rw [List.replicate_succ] at h
    cases h with
    | cons h1 h2 =>
      cases h1 with
      | int hw =>
        obtain ⟨m, rfl, hm⟩ := wf_u8 hw
        obtain ⟨g, rfl, hg, hx⟩ := bytes_of h2
        exact ⟨m :: g, rfl, by simp [hg], fun x hx' => by
          rcases List.mem_cons.1 hx' with rfl | hx'
          · exact hm
          · exact hx x hx'⟩
end Go.Den
end

