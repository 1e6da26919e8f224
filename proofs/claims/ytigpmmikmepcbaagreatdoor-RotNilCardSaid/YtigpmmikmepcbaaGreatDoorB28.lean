import Derived.Test.YtigpmmikmepcbaaGreatDoorDenS
import Derived.KernelRfl
import Derived.Lib.TrimUEq
import Derived.Laws.Bits64b
/- Texts that the claim needs, joined. -/
section
set_option linter.unusedVariables false
set_option maxRecDepth 100000
namespace Go.Den.Mon
open Go Go.Den
variable {h : Hp} {K : Value → Hp → Prop}
theorem lays240 : Go.Proofs.Lays.n240 P Go.Proofs.Tryz.lays159_ren := { Go.Proofs.Tryz.lays159 with }
theorem x72 : Go.Proofs.Builder.X72 P Go.Proofs.Tryz.lays159_ren := { Go.Proofs.Tryz.extra159 with }
/-! ### A Builder -/
/-- A Builder that has so many bytes; o: its row. -/
def BldAt (h : Hp) (b : Nat) (bs : List UInt8) (o : List Nat) : Prop := ∃ (p : Option Addr) (a : Option Addr) (c : Nat), h b = some (.cells #[.pointer p, .slice a bs.length c] T.strings_Builder (0, 0)) ∧ (p = none ∨ p = some ⟨b, 0, none⟩) ∧ SlAt h T.uint8 1 AnyV a bs.length c (bvs bs) o ∧ b ∉ o ∧ (a = none ∨ 0 < c ∧ ∃ g, a = some ⟨g, 0, none⟩)
theorem copyCheck_spec {b : Nat} {p : Option Addr} {v : Value} (hb : h b = some (.cells #[.pointer p, v] T.strings_Builder (0, 0))) (hp : p = none ∨ p = some ⟨b, 0, none⟩)
    (hk : K (.tuple #[]) (h.put b (.cells #[.pointer (some ⟨b, 0, none⟩), v] T.strings_Builder (0, 0)))) : HC P strings_Builder_copyCheck.n #[.pointer (some ⟨b, 0, none⟩)] h K := by
  intro w hw
  have hwb : w.heap[b]? = some (.cells #[.pointer p, v] T.strings_Builder (0, 0)) := by rw [← hw] at hb; exact (hp_some hb).1
  have c0 : w.cell? ⟨b, 0, none⟩ = some (.pointer p) := by rw [← hp_cell?, hw, cell_of hb]; rfl
  rcases hp with rfl | rfl
  · refine (callsIn_wide.2 (Go.Proofs.Any.Builder_copyCheck_fresh lays240 x72 b w c0 (by simp [World.shape?, hwb]; rfl) (by rw [← hp_frozen?, hw]; exact frozen_of hb))).mono ?_
    rintro e w' ⟨rfl, rfl⟩
    refine ⟨_, rfl, Amb.setCell _ _ _, ?_⟩
    rw [hp_setCell, hw, setCell_of hb]
    exact hk
  · refine (callsIn_wide.2 (Go.Proofs.Any.Builder_copyCheck_used lays240 x72 b w c0)).mono ?_
    rintro e w' ⟨rfl, rfl⟩
    refine ⟨_, rfl, Amb.refl _, ?_⟩
    rw [hw]
    rw [put_id hb] at hk
    exact hk
theorem BldAt.step {h h' : Hp} {b : Nat} {bs : List UInt8} {o own : List Nat} (B : BldAt h b bs o) (s : Step own h own h') (hb : b ∉ own) (ho : ∀ k ∈ o, k ∉ own) : BldAt h' b bs o := by
  obtain ⟨p, a, c, B0, hp, sl, hn, hr⟩ := B
  exact ⟨p, a, c, s.block B0 hb, hp, sl.keep fun k hk => s.keep k (sl.mem k hk) (ho k hk), hn, hr⟩
theorem BldAt.mem {h : Hp} {b : Nat} {bs : List UInt8} {o : List Nat} (B : BldAt h b bs o) : h b ≠ none := by
  obtain ⟨p, a, c, B0, -⟩ := B
  rw [B0]; simp
theorem BldAt.new {h : Hp} {b : Nat} (hb : h b = none) : BldAt (h.put b (.cells #[.pointer none, .slice none 0 0] T.strings_Builder (0, 0))) b [] [] :=
  ⟨none, none, 0, put_self, .inl rfl, .none, by simp, .inl rfl⟩
theorem BldAt.put {h : Hp} {b : Nat} {bs' : List UInt8} {o o' : List Nat} {a a' : Option Addr} {n n' c c' : Nat} {h' : Hp} (hb : b ∉ o) (B0 : h b = some (.cells #[.pointer (some ⟨b, 0, none⟩), .slice a n c] T.strings_Builder (0, 0)))
    (s1 : SlAt h' T.uint8 1 AnyV a' n' c' (bvs bs') o') (hn : n' = bs'.length) (ha : a' = none ∨ 0 < c' ∧ ∃ g, a' = some ⟨g, 0, none⟩) (S : Step o h o' h') : BldAt (h'.setCell ⟨b, 1, none⟩ (.slice a' n' c')) b bs' o' ∧ Step (o ++ [b]) h (o' ++ [b]) (h'.setCell ⟨b, 1, none⟩ (.slice a' n' c')) := by
  subst hn
  have B1 : h' b = some (.cells #[.pointer (some ⟨b, 0, none⟩), .slice a n c] T.strings_Builder (0, 0)) := S.block B0 hb
  have hb' : b ∉ o' := fun hm => by
    rcases S.own b hm with hm | hm
    · exact hb hm
    · rw [B0] at hm; cases hm
  refine ⟨⟨_, a', c', ?_, .inr rfl, ?_, hb', ha⟩, ?_⟩
  · rw [setCell_blk B1]; rfl
  · exact s1.keep fun k hk => setCell_ne fun e => hb' (by rw [← e]; exact hk)
  · exact (S.frame [b]).trans (Step.setCell B1 (by simp))
theorem room {h : Hp} {a a' : Option Addr} {len c c' n : Nat} {o : List Nat} {vs : List Value} (s : SlAt h T.uint8 1 AnyV a len c vs o) (hr : a = none ∨ 0 < c ∧ ∃ g, a = some ⟨g, 0, none⟩) (hle : len + n ≤ c') (e1 : len + n ≤ c → a' = a ∧ c' = c) (e2 : c < len + n → ∃ g, a' = some ⟨g, 0, none⟩) : a' = none ∨ 0 < c' ∧ ∃ g, a' = some ⟨g, 0, none⟩ := by
  by_cases hle' : len + n ≤ c
  · obtain ⟨rfl, rfl⟩ := e1 hle'
    exact hr
  · exact .inr ⟨by omega, e2 (by omega)⟩
theorem pushB0 {a : Option Addr} {len cap b n : Nat} {o : List Nat} {bs ws : List UInt8} (s : SlAt h T.uint8 1 AnyV a len cap (bvs bs) o) (hb : h b = none) (hw : ws.length = n) (hn : len + n < 2 ^ 32)
    (hk : ∀ a' cap' o' h', SlAt h' T.uint8 1 AnyV a' (len + n) cap' (bvs (bs ++ ws)) o' → Step o h o' h' → (len + n ≤ cap → a' = a ∧ cap' = cap) → (cap < len + n → ∃ g, a' = some ⟨g, 0, none⟩) → K (.slice a' (len + n) cap') h') :
    wpSem P (Builtin.append_ #[T.sl_uint8, T.sl_uint8] T.sl_uint8 #[.slice a len cap, .slice (some ⟨b, 0, none⟩) n n]) K (h.put b (.cells (bvs ws).toArray T.uint8 (0, 0))) := by
  have nb : ∀ k ∈ o, k ≠ b := fun k hk e => s.mem k hk (by rw [e]; exact hb)
  refine append_row (P := P) (Z := AnyV) (cs := bvs ws) (n := n) slU8 slU8.1 (s.keep fun k hk => put_ne (nb k hk)) (fun _ _ _ _ _ _ => trivial) (.some ⟨by simp [bvs_len, hw], fun j v hv => by rw [Addr.add_mk, cell_of put_self, Nat.zero_add]; exact hv⟩) bvs_cellish hn fun a' cap' o' h' s1 e1 e2 st => ?_
  rw [← bvs_app] at s1
  exact hk a' cap' o' h' s1 ((Step.put (.inr hb)).trans st) (fun hh => ⟨(e1 hh).1, (e1 hh).2.1⟩) e2
theorem writeByte_spec {b x : Nat} {bs : List UInt8} {o : List Nat} (B : BldAt h b bs o) (hx : x < 256) (hl : bs.length < 1000000) (hk : ∀ h' o', BldAt h' b (bs ++ [x.toUInt8]) o' → Step (o ++ [b]) h (o' ++ [b]) h' → K .nilIface h') : HC P strings_Builder_WriteByte.n #[.pointer (some ⟨b, 0, none⟩), .int .u8 (x : Int)] h K := by
  obtain ⟨p, a, c, B0, hp, sl, hn, hr⟩ := B
  refine strings_Builder_WriteByte.hc ?_
  unfold strings_Builder_WriteByte
  refine copyCheck_spec B0 hp ?_
  obtain ⟨h0, hh0⟩ : ∃ h0, h0 = h.put b (.cells #[.pointer (some ⟨b, 0, none⟩), .slice a bs.length c] T.strings_Builder (0, 0)) := ⟨_, rfl⟩
  rw [← hh0]
  have C0 : h0 b = some (.cells #[.pointer (some ⟨b, 0, none⟩), .slice a bs.length c] T.strings_Builder (0, 0)) := by rw [hh0, put_self]
  have s0 : SlAt h0 T.uint8 1 AnyV a bs.length c (bvs bs) o := sl.keep fun k hk => by rw [hh0, put_ne fun e => hn (by rw [← e]; exact hk)]
  have S0 : Step (o ++ [b]) h (o ++ [b]) h0 := by rw [hh0]; exact Step.put (.inl (by simp))
  unfold strings_Builder_WriteByte.k1
  simp only [someD_some, Addr.add_mk, Nat.zero_add]
  refine ⟨a, bs.length, c, by rw [cell_of C0]; rfl, fun b0 hb0 => ?_⟩
  have ex : (Array.mk [Value.int .u8 (x : Int)]) = (bvs [x.toUInt8]).toArray := by
    have : (x.toUInt8).toNat = x := by show x % 256 = x; omega
    simp [bvs, this]
  show wpSem P _ _ (h0.put b0 (.cells (Array.mk [Value.int .u8 (x : Int)]) T.uint8 (0, 0)))
  rw [ex]
  refine pushB0 s0 hb0 rfl (by omega) fun a' c' o' h' s1 st e1 e2 => ⟨_, _, _, rfl, ?_⟩
  unfold strings_Builder_WriteByte.k0
  simp only [someD_some, Addr.add_mk, Nat.zero_add]
  obtain ⟨q1, q2⟩ := BldAt.put hn C0 s1 (by simp) (room s0 hr s1.le_cap e1 e2) st
  have C1 : h' b = some (.cells #[.pointer (some ⟨b, 0, none⟩), .slice a bs.length c] T.strings_Builder (0, 0)) := st.block C0 hn
  exact ⟨⟨_, by rw [cell_of C1]; rfl⟩, frozen_of C1, hk _ o' q1 (S0.trans q2)⟩
theorem writeString_spec {b : Nat} {s : ByteArray} {bs : List UInt8} {o : List Nat} (B : BldAt h b bs o) (hl : bs.length + s.size < 1000000) (hk : ∀ h' o', BldAt h' b (bs ++ s.data.toList) o' → Step (o ++ [b]) h (o' ++ [b]) h' → K (.tuple #[.int .i64 (s.size : Int), .nilIface]) h') : HC P strings_Builder_WriteString.n #[.pointer (some ⟨b, 0, none⟩), .string s] h K := by
  obtain ⟨p, a, c, B0, hp, sl, hn, hr⟩ := B
  refine strings_Builder_WriteString.hc ?_
  unfold strings_Builder_WriteString
  refine copyCheck_spec B0 hp ?_
  obtain ⟨h0, hh0⟩ : ∃ h0, h0 = h.put b (.cells #[.pointer (some ⟨b, 0, none⟩), .slice a bs.length c] T.strings_Builder (0, 0)) := ⟨_, rfl⟩
  rw [← hh0]
  have C0 : h0 b = some (.cells #[.pointer (some ⟨b, 0, none⟩), .slice a bs.length c] T.strings_Builder (0, 0)) := by rw [hh0, put_self]
  have s0 : SlAt h0 T.uint8 1 AnyV a bs.length c (bvs bs) o := sl.keep fun k hk => by rw [hh0, put_ne fun e => hn (by rw [← e]; exact hk)]
  have S0 : Step (o ++ [b]) h (o ++ [b]) h0 := by rw [hh0]; exact Step.put (.inl (by simp))
  unfold strings_Builder_WriteString.k1
  simp only [someD_some, Addr.add_mk, Nat.zero_add]
  refine ⟨a, bs.length, c, by rw [cell_of C0]; rfl, ?_⟩
  refine append_str (P := P) (Z := AnyV) (n := s.size) (cs := bvs s.data.toList) slU8 (by kernel_rfl) s0 (fun _ _ _ _ _ _ => trivial) rfl rfl rfl (by omega) fun a' c' o' h' s1 e1 e2 st => ⟨_, _, _, rfl, ?_⟩
  unfold strings_Builder_WriteString.k0
  simp only [someD_some, Addr.add_mk, Nat.zero_add]
  rw [← bvs_app] at s1
  obtain ⟨q1, q2⟩ := BldAt.put hn C0 s1 (by rw [List.length_append]; rfl) (room s0 hr s1.le_cap (fun hh => ⟨(e1 hh).1, (e1 hh).2.1⟩) e2) st
  have C1 : h' b = some (.cells #[.pointer (some ⟨b, 0, none⟩), .slice a bs.length c] T.strings_Builder (0, 0)) := st.block C0 hn
  exact ⟨⟨_, by rw [cell_of C1]; rfl⟩, frozen_of C1, hk _ o' q1 (S0.trans q2)⟩
theorem wp_loadB {C : ByteArray → Hp → Prop} : ∀ (l : List UInt8) (a : Addr) (acc : ByteArray), (∀ (j : Nat) (x : UInt8), l[j]? = some x → h.cell? (a.add j) = some (.int .u8 (x.toNat : Int))) → C ⟨acc.data ++ l.toArray⟩ h → wpSem P (loadBytes a acc l.length) C h
  | [], a, acc, _, hk => by
    show C acc h
    simpa using hk
  | x :: l, a, acc, hc, hk => by
    have h0 : h.cell? a = some (.int .u8 (x.toNat : Int)) := by
      have := hc 0 x rfl
      rwa [show a.add 0 = a from rfl] at this
    have ad : ∀ j, (a.add 1).add j = a.add (j + 1) := fun j => by
      obtain ⟨b, o, s⟩ := a
      unfold Addr.add
      by_cases hj : j = 0
      · subst hj; simp
      · simp [hj]; omega
    have ih := wp_loadB (C := C) l (a.add 1) (acc.push x) (fun j y hy => by rw [ad]; exact hc (j + 1) y (by simpa using hy)) (by
      have e : (acc.push x).data ++ l.toArray = acc.data ++ (x :: l).toArray := by apply Array.ext'; simp [ByteArray.push]
      rw [e]; exact hk)
    show wpSem P (load a >>= _) C h
    refine ⟨_, h0, ?_⟩
    have ex : ((x.toNat : Int).toNat).toUInt8 = x := by simp
    show wpSem P (loadBytes (a.add 1) (acc.push ((x.toNat : Int).toNat).toUInt8) l.length) C h
    rw [ex]; exact ih
theorem freeze_off {h : Hp} {a : Addr} {n k : Nat} (hk : k ≠ a.block) : h.freeze a n k = h k := by
  unfold Hp.freeze
  by_cases e : n = 0
  · rw [if_pos e]
  · rw [if_neg e, if_neg hk]
theorem freeze_dom {h : Hp} {a : Addr} {n k : Nat} (hk : h k ≠ none) : h.freeze a n k ≠ none := by
  unfold Hp.freeze
  split
  · exact hk
  · split
    · cases e : h k with
      | none => exact absurd e hk
      | some o => simp
    · exact hk
theorem str_wp {C : Value → Hp → Prop} {b cap : Nat} {bs : List UInt8} {o : List Nat} (sl : SlAt h T.uint8 1 AnyV (some ⟨b, 0, none⟩) bs.length cap (bvs bs) o) (hl : bs.length < 1000000) (hk : ∀ h', Step o h o h' → C (.string ⟨bs.toArray⟩) h') :
    wpSem P (Builtin.unsafeString_ #[T.ptr_uint8, T.int] T.string #[.pointer (some ⟨b, 0, none⟩), .int .i64 (bs.length : Int)]) C h := by
  have hp : P.underlying T.ptr_uint8 = some (.pointer T.uint8) := by kernel_rfl
  have hM : IntKind.i64.max = 9223372036854775807 := rfl
  have hc1 : P.cellsOf T.uint8 = 1 := by kernel_rfl
  have hdef : Builtin.unsafeString_ #[T.ptr_uint8, T.int] T.string #[.pointer (some ⟨b, 0, none⟩), .int .i64 (bs.length : Int)] =
      (do
        let n ← asInt (.int .i64 (bs.length : Int))
        if n < 0 then runtimePanic (.error "unsafe.String: len out of range")
        if n > IntKind.i64.max then unsupported (.unsafePointer "String: a length above the largest int")
        if n = 0 then pure (.string .empty)
        else if ← variablesAt ⟨b, 0, none⟩ (← elemOf T.ptr_uint8) n.toNat then do
          let s ← loadBytes ⟨b, 0, none⟩ .empty n.toNat
          freeze ⟨b, 0, none⟩ n.toNat
          pure (.string s)
        else unsupported (.unsafePointer "String: not so many bytes at ptr")) := rfl
  rw [hdef]
  refine wpSem_bind _ _ _ _ (wp_pure (P := P) ?_)
  rw [if_neg (by omega), if_neg (by omega)]
  by_cases hz : bs.length = 0
  · rw [if_pos (by omega)]
    have : bs = [] := List.length_eq_zero_iff.1 hz
    subst this
    exact hk h (Step.refl _ _)
  rw [if_neg (by omega)]
  generalize hvs : bvs bs = vs at sl
  cases sl with
  | @some _ _ _ _ pre _ rest post hb hpre h1 h2 h3 h4 =>
    have hpre : pre = [] := List.length_eq_zero_iff.1 hpre
    subst hpre hvs
    refine wpSem_bind _ _ _ _ ?_
    unfold elemOf
    refine wpSem_bind _ _ _ _ (wp_underlying hp ?_)
    refine wp_pure (P := P) ?_
    have hsh : h.shape? b = some (T.uint8, (([] : List Value) ++ (bvs bs ++ (rest ++ post))).toArray.size) := by unfold Hp.shape?; rw [hb]
    have hn : bs.length ≤ (([] : List Value) ++ (bvs bs ++ (rest ++ post))).toArray.size := by simp [bvs_len]
    have hlies := Lib.liesAt_bytes (P := P) hc1 ((([] : List Value) ++ (bvs bs ++ (rest ++ post))).toArray.size / P.cellsOf T.uint8) bs.length (by rw [hc1]; simpa using hn)
    refine wpSem_bind _ _ _ _ ?_
    show wpSem P (match h.shape? b with | some (e, cells) => pure (liesAt P P.depth e (cells / P.cellsOf e) 0 T.uint8 bs.length) | none => pure false) _ h
    rw [hsh]
    show wpSem P (pure (liesAt P P.depth T.uint8 _ 0 T.uint8 bs.length) : Sem Bool) _ h
    rw [hlies]
    refine wp_pure (P := P) ?_
    rw [if_pos rfl]
    refine wpSem_bind _ _ _ _ ?_
    show wpSem P (loadBytes ⟨b, 0, none⟩ ByteArray.empty bs.length) _ h
    refine wp_loadB bs _ _ (fun j x hx => ?_) ?_
    · rw [Addr.add_mk, cell_of hb, get_mid (pre := []) (off := 0) rfl (by rw [bvs_len]; exact (List.getElem?_eq_some_iff.1 hx).1)]
      simp [bvs, hx]
    · have e : ((ByteArray.empty).data ++ bs.toArray) = bs.toArray := by
        show (#[] : Array UInt8) ++ bs.toArray = _
        simp
      rw [e]
      refine hk _ ⟨fun k hk hn => freeze_off fun e => hn (by simp [e]), fun k hk => .inl hk, fun k hk => freeze_dom hk⟩
/-- What it has, told: its row is frozen. -/
theorem bldString_spec {b : Nat} {bs : List UInt8} {o : List Nat} (B : BldAt h b bs o) (hl : bs.length < 1000000) (hk : ∀ h' o', Step (o ++ [b]) h o' h' → K (.string ⟨bs.toArray⟩) h') : HC P strings_Builder_String.n #[.pointer (some ⟨b, 0, none⟩)] h K := by
  obtain ⟨p, a, c, B0, hp, sl, hn, hr⟩ := B
  refine strings_Builder_String.hc ?_
  unfold strings_Builder_String
  have cc : h.cell? ⟨b, 1, none⟩ = some (.slice a bs.length c) := by rw [cell_of B0]; rfl
  simp only [someD_some, Addr.add_mk, Nat.zero_add]
  refine ⟨_, _, _, cc, _, _, _, cc, ?_⟩
  rcases hr with rfl | ⟨hc, g, rfl⟩
  · have hbs : bs = [] := by
      generalize hvs : bvs bs = vs at sl
      generalize hnn : bs.length = n at sl
      cases sl with
      | none => exact List.length_eq_zero_iff.1 hnn
    subst hbs
    show wpSem P (pure (.pointer none) : Sem Value) _ h
    refine wp_pure (P := P) ⟨none, rfl, ?_⟩
    unfold strings_Builder_String.k0
    simp only [Addr.add_mk, Nat.zero_add]
    refine ⟨⟨_, _, _, cc, rfl⟩, ?_⟩
    show wpSem P (Builtin.unsafeString_ #[T.ptr_uint8, T.int] T.string #[.pointer none, .int .i64 0]) _ h
    exact ⟨_, rfl, hk h o ((Step.refl (o ++ [b]) h).weak (fun _ h => h) fun k hk => .inr (.inl (by simp [hk])))⟩
  · obtain ⟨k, rfl⟩ : ∃ k, c = k + 1 := ⟨c - 1, by omega⟩
    show wpSem P (pure (.pointer (some ⟨g, 0, none⟩)) : Sem Value) _ h
    refine wp_pure (P := P) ⟨_, rfl, ?_⟩
    unfold strings_Builder_String.k0
    simp only [Addr.add_mk, Nat.zero_add]
    refine ⟨⟨_, _, _, cc, rfl⟩, ?_⟩
    refine str_wp sl hl fun h' S => ⟨_, rfl, hk h' (o ++ [b]) (S.frame [b])⟩
end Go.Den.Mon
end

section
set_option linter.unusedVariables false
set_option maxRecDepth 100000
namespace Go.Den.Mon
open Go Go.Den
variable {h : Hp} {K : Value → Hp → Prop}

/-! ### Places -/
def dn (k : Nat) : Nat := (if 4 < k then 1 else 0) + (if 6 < k then 1 else 0) + (if 8 < k then 1 else 0) + (if 10 < k then 1 else 0)
def at' (k : Nat) : Nat := 1 + 2 * k + dn k
def pos (k : Nat) : Nat := 1 + 2 * k + dn (k + 1)
theorem dn_le (k : Nat) : dn k ≤ 4 := by unfold dn; split <;> split <;> split <;> split <;> omega
theorem at_succ (k : Nat) : at' (k + 1) = pos k + 2 := by unfold at' pos; omega
theorem pos_dash {k : Nat} (hd : dash k = true) : pos k = at' k + 1 := by
  unfold dash at hd
  rcases of_decide_eq_true hd with rfl | rfl | rfl | rfl <;> rfl
theorem pos_plain {k : Nat} (hd : dash k = false) : pos k = at' k := by
  have hd := of_decide_eq_false hd
  unfold pos at' dn
  by_cases h1 : 4 < k
  · by_cases h2 : 6 < k
    · by_cases h3 : 8 < k
      · by_cases h4 : 10 < k
        · simp [h1, h2, h3, h4, show 4 < k + 1 by omega, show 6 < k + 1 by omega, show 8 < k + 1 by omega, show 10 < k + 1 by omega]
        · simp [h1, h2, h3, h4, show 4 < k + 1 by omega, show 6 < k + 1 by omega, show 8 < k + 1 by omega, show ¬ 10 < k + 1 by omega]
      · simp [h1, h2, h3, show ¬ 10 < k by omega, show 4 < k + 1 by omega, show 6 < k + 1 by omega, show ¬ 8 < k + 1 by omega, show ¬ 10 < k + 1 by omega]
    · simp [h1, h2, show ¬ 8 < k by omega, show ¬ 10 < k by omega, show 4 < k + 1 by omega, show ¬ 6 < k + 1 by omega, show ¬ 8 < k + 1 by omega, show ¬ 10 < k + 1 by omega]
  · simp [h1, show ¬ 6 < k by omega, show ¬ 8 < k by omega, show ¬ 10 < k by omega, show ¬ 4 < k + 1 by omega, show ¬ 6 < k + 1 by omega, show ¬ 8 < k + 1 by omega, show ¬ 10 < k + 1 by omega]
theorem pos_lt {k : Nat} (hk : k < 16) : pos k + 1 < 37 := by unfold pos; have := dn_le (k + 1); omega

/-! ### What is read -/
def by' (l : List UInt8) (p : Nat) : Nat := (l.getD p 0).toNat
def ok (l : List UInt8) (i : Nat) : Prop := 0 ≤ hv (by' l (pos i)) ∧ 0 ≤ hv (by' l (pos i + 1))
def val (l : List UInt8) (i : Nat) : Nat := (hv (by' l (pos i))).toNat * 16 + (hv (by' l (pos i + 1))).toNat
def part (l : List UInt8) (k : Nat) : List Nat := (List.range 16).map fun j => if j < k then val l j else 0
theorem ba_get {s : ByteArray} {p : Nat} (hp : p < s.data.toList.length) : s[p]? = some (s.data.toList.getD p 0) := by
  have h1 : p < s.size := by rw [Lib.size_eq] at *; exact hp
  rw [getElem?_pos s p h1]
  have e : s[p] = s.data.toList[p] := rfl
  rw [e, List.getD, List.getElem?_eq_getElem hp]; rfl
/-- What parsing takes. -/
def acc (l low : List UInt8) : Prop := l.length = 38 ∧ (∀ i < 16, ok l i) ∧ prL (part l 16) = low
end Go.Den.Mon
end

section
set_option linter.unusedVariables false
set_option maxRecDepth 100000
namespace Go.Den.Mon
open Go Go.Den
variable {h : Hp} {K : Value → Hp → Prop}
def spc (c : UInt8) : Bool := c == 33 || c == 58 || c == 64 || c == 46 || c == 92
def e1 (c : UInt8) : List UInt8 := if spc c then [92, c] else [c]
def esc (l : List UInt8) : List UInt8 := l.flatMap e1
def txt1 (r : Raw) : List UInt8 := if r.kind = 1 then 33 :: esc r.txt.data.toList else if r.kind = 2 then 58 :: prL r.id else if r.kind = 3 then 64 :: hf r.H 16 else [46]
def txtOf (l : List Raw) : List UInt8 := l.flatMap txt1
theorem esc_take {l : List UInt8} {j : Nat} {c : UInt8} (hc : l[j]? = some c) : esc (l.take (j + 1)) = esc (l.take j) ++ e1 c := by
  rw [List.take_add_one, hc]
  simp [esc]
theorem esc_len {l : List UInt8} : (esc l).length ≤ 2 * l.length := by
  induction l with
  | nil => simp [esc]
  | cons c l ih =>
    have : (e1 c).length ≤ 2 := by unfold e1; split <;> simp
    simp only [esc, List.flatMap_cons, List.length_append, List.length_cons] at ih ⊢
    omega
theorem prL_len {g : List Nat} : (prL g).length ≤ 100 := by
  have := pr_len (g := g) 16
  unfold prL; simp; omega
theorem txt1_len {r : Raw} (e : rpart r = true) : (txt1 r).length ≤ 600 := by
  unfold txt1
  split
  · rename_i hk
    unfold rpart at e
    rw [if_pos hk] at e
    have h2 := (of_decide_eq_true e).2.2.2
    have := esc_len (l := r.txt.data.toList)
    rw [Lib.size_eq] at h2
    simp; omega
  · split
    · have := prL_len (g := r.id); simp; omega
    · split
      · simp [hf_len]
      · simp
theorem txtOf_len {l : List Raw} (e : ∀ r ∈ l, rpart r = true) : (txtOf l).length ≤ 600 * l.length := by
  induction l with
  | nil => simp [txtOf]
  | cons r l ih =>
    have h1 := txt1_len (e r (by simp))
    have h2 := ih fun r hr => e r (by simp [hr])
    simp only [txtOf, List.flatMap_cons, List.length_append, List.length_cons] at h2 ⊢
    omega
theorem ba_some {s : ByteArray} {p : Nat} {c : UInt8} (hp : s.data.toList[p]? = some c) : s[p]? = some c := by
  have hl := (List.getElem?_eq_some_iff.1 hp).1
  rw [ba_get hl, List.getD_eq_getElem?_getD, hp]; rfl
theorem toU8 (c : UInt8) : c.toNat.toUInt8 = c := by simp
abbrev signs : ByteArray := ⟨#[33, 58, 64, 46]⟩
theorem idx_signs : ((List.range 256).all fun n => decide (0 ≤ Lib.indexByte signs.data.toList n.toUInt8) == (spc n.toUInt8 && !(n == 92))) = true := by decide +kernel
theorem idx_sign (c : UInt8) : decide (0 ≤ Lib.indexByte signs.data.toList c) = (spc c && !(c.toNat == 92)) := by
  have := List.all_eq_true.1 idx_signs c.toNat (List.mem_range.2 (UInt8.toNat_lt c))
  rw [beq_iff_eq, toU8] at this
  exact this
/-- Inside the body: what was written, the loop's record, the part. -/
structure PB (h2 : Hp) (b1 l0 b2 : Nat) (x : Raw) (R0 : Rec) (o0 : List Nat) (bs : List UInt8) (o : List Nat) (hh : Hp) : Prop where
  B : BldAt hh b1 bs o
  L : hh l0 = some R0.busy
  M : MB hh b2 x
  nl : l0 ∉ o
  nb : b2 ∉ o
  lb : l0 ≠ b1
  b2b : b2 ≠ b1
  st : Step (o0 ++ [b1, l0]) h2 (o ++ [b1, l0]) hh
section
variable {h2 hh : Hp} {b1 l0 b2 : Nat} {x : Raw} {R0 : Rec} {o0 o : List Nat} {bs : List UInt8} {C : Value → Hp → Prop}
theorem PB.next {h' : Hp} {o' : List Nat} {bs' : List UInt8} (w : PB h2 b1 l0 b2 x R0 o0 bs o hh) (B' : BldAt h' b1 bs' o') (s : Step (o ++ [b1]) hh (o' ++ [b1]) h') : PB h2 b1 l0 b2 x R0 o0 bs' o' h' := by
  have stay : ∀ q, hh q ≠ none → q ∉ o → q ≠ b1 → q ∉ o' := fun q hq h1 h2 hm => by
    rcases s.own q (by simp [hm]) with z | z
    · simp at z; rcases z with z | z
      · exact h1 z
      · exact h2 z
    · exact hq z
  refine ⟨B', ?_, ?_, stay l0 (by rw [w.L]; simp) w.nl w.lb, stay b2 (by rw [w.M]; simp) w.nb w.b2b, w.lb, w.b2b, ?_⟩
  · rw [s.keep l0 (by rw [w.L]; simp) (by simp [w.nl, w.lb])]; exact w.L
  · show _ = _
    rw [s.keep b2 (by rw [w.M]; simp) (by simp [w.nb, w.b2b])]; exact w.M
  · exact w.st.trans (by simpa using s.frame [l0])
theorem PB.pure {h' : Hp} (w : PB h2 b1 l0 b2 x R0 o0 bs o hh) (s : Step [] hh [] h') : PB h2 b1 l0 b2 x R0 o0 bs o h' :=
  w.next (w.B.step s (by simp) (by simp)) (by simpa using s.frame (o ++ [b1]))
theorem PB.byte (w : PB h2 b1 l0 b2 x R0 o0 bs o hh) (c : UInt8) (hl : bs.length < 1000000) (hk : ∀ h' o', PB h2 b1 l0 b2 x R0 o0 (bs ++ [c]) o' h' → C .nilIface h') : HC P strings_Builder_WriteByte.n #[.pointer (some ⟨b1, 0, none⟩), .int .u8 (c.toNat : Int)] hh C :=
  writeByte_spec w.B (UInt8.toNat_lt c) hl fun h' o' B' s => hk h' o' (w.next (by rw [toU8] at B'; exact B') s)
theorem PB.str (w : PB h2 b1 l0 b2 x R0 o0 bs o hh) (s : ByteArray) (hl : bs.length + s.size < 1000000) (hk : ∀ h' o', PB h2 b1 l0 b2 x R0 o0 (bs ++ s.data.toList) o' h' → C (.tuple #[.int .i64 (s.size : Int), .nilIface]) h') : HC P strings_Builder_WriteString.n #[.pointer (some ⟨b1, 0, none⟩), .string s] hh C :=
  writeString_spec w.B hl fun h' o' B' s' => hk h' o' (w.next B' s')
end
/-- The text of an item. -/
theorem prText {h2 hh : Hp} {b1 l0 b2 : Nat} {x : Raw} {R0 : Rec} {o0 o : List Nat} {bs : List UInt8} {K0 : Value → Hp → Prop} (k : x.Ok) (w : PB h2 b1 l0 b2 x R0 o0 bs o hh) (hl : bs.length + 2 * x.txt.data.toList.length < 900000)
    (hk : ∀ h' o', PB h2 b1 l0 b2 x R0 o0 (bs ++ esc x.txt.data.toList) o' h' → K0 (.bool true) (h'.put l0 R0.ready)) : moniker_Print.k8 hh b2 b1 l0 R0 K0 := by
  unfold moniker_Print.k8
  simp only [Addr.add_mk, Nat.zero_add]
  obtain ⟨I0, hI0⟩ : ∃ I0 : List Value → Hp → Prop, I0 = fun vs h' => ∃ (j : Nat) (o' : List Nat), vs = [.int .i64 (j : Int)] ∧ j ≤ x.txt.data.toList.length ∧ PB h2 b1 l0 b2 x R0 o0 (bs ++ esc (x.txt.data.toList.take j)) o' h' := ⟨_, rfl⟩
  obtain ⟨x0, hx0⟩ : ∃ x0 : List Value → Hp → Nat, x0 = fun vs _ => match vs with | [.int _ i] => x.txt.data.toList.length - i.toNat | _ => 0 := ⟨_, rfl⟩
  have es : x.txt.size = x.txt.data.toList.length := Lib.size_eq _
  refine ⟨_, w.M.txt k, I0, x0, by rw [hI0]; exact ⟨0, o, rfl, by omega, by simpa [esc] using w⟩, ?_⟩
  intro h4 n3 hin
  rw [hI0] at hin
  obtain ⟨j, o', he, hj, w4⟩ := hin
  have en : n3 = (j : Int) := by cases he; rfl
  clear he
  subst en
  refine bcase_intro (fun hc => ?_) fun hc => ?_
  · have hc : j < x.txt.data.toList.length := by have := of_decide_eq_true hc; omega
    obtain ⟨c, hcc⟩ : ∃ c, x.txt.data.toList[j]? = some c := ⟨_, List.getElem?_eq_getElem hc⟩
    have ll : (bs ++ esc (x.txt.data.toList.take j)).length < 900000 := by
      have := esc_len (l := x.txt.data.toList.take j)
      rw [List.length_take] at this
      rw [List.length_append]; omega
    have et := esc_take hcc
    have fin : ∀ h6 o6, PB h2 b1 l0 b2 x R0 o0 (bs ++ esc (x.txt.data.toList.take j) ++ e1 c) o6 h6 → moniker_Print.k0 I0 (j : Int) h6 x0 h4 := fun h6 o6 w6 => by
      unfold moniker_Print.k0
      have hj2 := k.txt
      rw [wrapN (m := j + 1) (by simp) (by omega)]
      refine ⟨?_, ?_⟩
      · rw [hI0]
        exact ⟨j + 1, o6, rfl, by omega, by rw [et, ← List.append_assoc]; exact w6⟩
      · rw [hx0]
        show x.txt.data.toList.length - ((j + 1 : Nat) : Int).toNat < x.txt.data.toList.length - (j : Int).toNat
        omega
    -- the two bytes
    have two : spc c = true → HC P strings_Builder_WriteByte.n #[.pointer (some ⟨b1, 0, none⟩), .int .u8 92] h4 (fun v5 h5 => (∃ v6 : Value, (v5 = v6) ∧ (∃ s2 : ByteArray, ((h5.cell? ⟨b2, 17, none⟩) = (some (.string s2))) ∧ (moniker_Print.k1 (j : Int) s2 b1 h5 I0 x0 h4)))) := fun hs => by
      refine w4.byte 92 (by omega) fun h5 o5 w5 => ⟨_, rfl, _, w5.M.txt k, ?_⟩
      unfold moniker_Print.k1
      rw [Int.toNat_natCast]
      refine ⟨by omega, c, ba_some hcc, w5.byte c (by simp at ll ⊢; omega) fun h6 o6 w6 => ⟨_, rfl, fin h6 o6 ?_⟩⟩
      have : e1 c = [92, c] := by unfold e1; rw [if_pos hs]
      rw [this]
      simpa using w6
    unfold moniker_Print.k7
    simp only [Addr.add_mk, Nat.zero_add]
    rw [Int.toNat_natCast]
    refine ⟨_, w4.M.txt k, by omega, c, ba_some hcc, bcase_intro (fun d => ?_) fun d => ?_⟩
    · unfold moniker_Print.k2
      simp only [Addr.add_mk, Nat.zero_add]
      refine two ?_
      have d : (c.toNat : Int) = 92 := by simpa using d
      have : c = 92 := by rw [← toU8 c, show c.toNat = 92 by omega]; rfl
      rw [this]; rfl
    · have d : ¬ c.toNat = 92 := fun q => by rw [q] at d; simp at d
      unfold moniker_Print.k6
      refine sIndex_spec ⟨_, rfl, ?_⟩
      rw [toU8]
      have ix := idx_sign c
      rw [show (c.toNat == 92) = false by simpa using d, Bool.not_false, Bool.and_true] at ix
      unfold moniker_Print.k5
      rw [ix]
      refine bcase_intro (fun hs => ?_) fun hs => ?_
      · unfold moniker_Print.k3
        simp only [Addr.add_mk, Nat.zero_add]
        exact two hs
      · unfold moniker_Print.k4
        simp only [Addr.add_mk, Nat.zero_add]
        rw [Int.toNat_natCast]
        refine ⟨_, w4.M.txt k, by omega, c, ba_some hcc, w4.byte c (by omega) fun h6 o6 w6 => ⟨_, rfl, fin h6 o6 ?_⟩⟩
        have : e1 c = [c] := by unfold e1; rw [if_neg (by simp [hs])]
        rw [this]; exact w6
  · have hc : j = x.txt.data.toList.length := by have := of_decide_eq_false hc; omega
    rw [hc, List.take_length] at w4
    exact ⟨w4.L, hk h4 o' w4⟩
end Go.Den.Mon
end

section
set_option linter.unusedVariables false
set_option maxRecDepth 100000
namespace Go.Den.Mon
open Go Go.Den
variable {h : Hp} {K : Value → Hp → Prop}
theorem hf16 {n d : Nat} (hd : d ≤ 16) (hn : n < 16 ^ d) : Lib.repeatL [(48 : UInt8)] (16 - d) ++ hf n d = hf n 16 := by
  have := hf_pad hn (e := 16 - d)
  rw [show d + (16 - d) = 16 by omega] at this
  rw [this, repL]
theorem prBody {g h2 : Hp} {b1 l0 : Nat} {x : Raw} {bs : List UInt8} {o : List Nat} {R0 : Rec} {K0 : Value → Hp → Prop} (en : Env g) (sg : Step [] g (o ++ [b1, l0]) h2) (k : x.Ok) (rp : rpart x = true) (B : BldAt h2 b1 bs o) (hl : h2 l0 = some R0.ready) (nl0 : l0 ∉ o) (nlb : l0 ≠ b1) (hn : bs.length < 100000)
    (hk : ∀ o' h', BldAt h' b1 (bs ++ txt1 x) o' → h' l0 = some R0.ready → l0 ∉ o' → Step (o ++ [b1, l0]) h2 (o' ++ [b1, l0]) h' → K0 (.bool true) h') :
    ∀ b2 : Nat, h2 b2 = none → ((mc x).toArray.size = 20) ∧ (∀ v2 : Value, (v2 ∈ (Array.toList (mc x).toArray : List Value) → (Den.cellish v2) = Bool.true)) ∧ (Free (h2.put b2 (.cells zMon T.api_Moniker (0, 0))) ⟨b2, 0, none⟩ 20) ∧ ((((h2.put b2 (.cells zMon T.api_Moniker (0, 0))).setCells ⟨b2, 0, none⟩ (mc x).toArray) l0) = (some R0.ready)) ∧
      (∃ n1 : Int, (((((h2.put b2 (.cells zMon T.api_Moniker (0, 0))).setCells ⟨b2, 0, none⟩ (mc x).toArray).put l0 R0.busy).cell? ((⟨b2, 0, none⟩ : Addr).add 0)) = (some (.int .i64 n1))) ∧ ((0 : Int) ≤ (IntKind.wrap .i64 (n1 - 1))) ∧ (∃ b3 : UInt8, (((⟨#[33, 58, 64, 46]⟩ : ByteArray)[(IntKind.wrap .i64 (n1 - 1)).toNat]?) = (some b3)) ∧ HC P strings_Builder_WriteByte.n #[.pointer (some ⟨b1, 0, none⟩), .int .u8 (b3.toNat : Int)] (((h2.put b2 (.cells zMon T.api_Moniker (0, 0))).setCells ⟨b2, 0, none⟩ (mc x).toArray).put l0 R0.busy)
        (fun v3 h3 => (∃ v4 : Value, (v3 = v4) ∧ (∃ n2 : Int, ((h3.cell? ((⟨b2, 0, none⟩ : Addr).add 0)) = (some (.int .i64 n2))) ∧ (moniker_Print.k16 n2 h3 b2 b1 l0 R0 K0)))))) := by
  intro b2 hb2
  have om : ∀ q ∈ o, h2 q ≠ none := by
    obtain ⟨_, _, _, _, _, s, _, _⟩ := B
    exact s.mem
  have n20 : b2 ≠ l0 := fun q => by rw [q, hl] at hb2; cases hb2
  have n2b : b2 ≠ b1 := fun q => B.mem (by rw [← q]; exact hb2)
  have n2o : b2 ∉ o := fun q => om b2 q hb2
  obtain ⟨X, hX⟩ : ∃ X, X = (h2.put b2 (.cells (mc x).toArray T.api_Moniker (0, 0))).put l0 R0.busy := ⟨_, rfl⟩
  have e2 := newM k hb2
  have Xl : X l0 = some R0.busy := by rw [hX, put_self]
  have X2 : MB X b2 x := by rw [hX]; show _ = _; rw [put_ne n20, put_self]
  have sX : Step (b2 :: [l0]) h2 (b2 :: [l0]) X := by rw [hX]; exact (Step.put (.inl (by simp))).trans (Step.put (.inl (by simp)))
  have SX : Step (o ++ [b1, l0]) h2 (o ++ [b1, l0]) X := by rw [hX]; exact (Step.put (.inr hb2)).trans (Step.put (.inl (by simp)))
  have XB : BldAt X b1 bs o := B.step sX (by simp [Ne.symm n2b, Ne.symm nlb]) fun q hq => by
    simp only [List.mem_cons, List.not_mem_nil, or_false, not_or]
    exact ⟨fun z => n2o (by rw [← z]; exact hq), fun z => nl0 (by rw [← z]; exact hq)⟩
  rw [e2, ← hX]
  have w : PB h2 b1 l0 b2 x R0 o bs o X := ⟨XB, Xl, X2, nl0, n2o, nlb, n2b, SX⟩
  have fin : ∀ h' o', PB h2 b1 l0 b2 x R0 o (bs ++ txt1 x) o' h' → K0 (.bool true) (h'.put l0 R0.ready) := fun h' o' w' => by
    refine hk o' _ (w'.B.step (own := [l0]) (Step.put (.inl (by simp))) (by simp [Ne.symm nlb]) fun q hq => ?_) put_self w'.nl (w'.st.trans (Step.put (.inl (by simp))))
    simp only [List.mem_cons, List.not_mem_nil, or_false]
    exact fun z => w'.nl (by rw [← z]; exact hq)
  have lx : bs.length + (txt1 x).length < 200000 := by have := txt1_len rp; omega
  have one : ∀ (c : UInt8), (∀ h3 o3, PB h2 b1 l0 b2 x R0 o (bs ++ [c]) o3 h3 → moniker_Print.k16 x.kind h3 b2 b1 l0 R0 K0) → HC P strings_Builder_WriteByte.n #[.pointer (some ⟨b1, 0, none⟩), .int .u8 (c.toNat : Int)] X
        (fun v3 h3 => (∃ v4 : Value, (v3 = v4) ∧ (∃ n2 : Int, ((h3.cell? ((⟨b2, 0, none⟩ : Addr).add 0)) = (some (.int .i64 n2))) ∧ (moniker_Print.k16 n2 h3 b2 b1 l0 R0 K0)))) := fun c hc =>
    w.byte c (by omega) fun h3 o3 w3 => ⟨_, rfl, _, by rw [Addr.add_mk]; exact w3.M.kind, hc h3 o3 w3⟩
  refine ⟨by simpa using mc_len k, mc_cellish, freeM, by rw [put_ne (Ne.symm n20)]; exact hl, x.kind, by rw [Addr.add_mk]; exact X2.kind, ?_⟩
  rcases rp_kind rp with q | q | q | q
  · have et : txt1 x = 33 :: esc x.txt.data.toList := by unfold txt1; rw [if_pos q]
    rw [et] at fin
    have hz : x.txt.data.toList.length ≤ 256 := by
      unfold rpart at rp
      rw [if_pos q] at rp
      have := (of_decide_eq_true rp).2.2.2
      rwa [Lib.size_eq] at this
    refine ⟨by rw [q]; decide +kernel, 33, by rw [q]; decide +kernel, one 33 fun h3 o3 w3 => ?_⟩
    unfold moniker_Print.k16
    refine bcT (by rw [q]; rfl) ?_
    refine prText k w3 (by rw [List.length_append, List.length_singleton]; omega) fun h' o' w' => fin h' o' ?_
    simpa using w'
  · have et : txt1 x = 58 :: prL x.id := by unfold txt1; rw [if_neg (by omega), if_pos q]
    rw [et] at fin
    refine ⟨by rw [q]; decide +kernel, 58, by rw [q]; decide +kernel, one 58 fun h3 o3 w3 => ?_⟩
    unfold moniker_Print.k16
    refine bcF (by rw [q]; rfl) ?_
    unfold moniker_Print.k15
    refine bcT (by rw [q]; rfl) ?_
    unfold moniker_Print.k10
    rw [Addr.add_mk]
    refine ⟨_, w3.M.id k, gPrint_spec k.id fun h4 s4 => ⟨_, rfl, ?_⟩⟩
    have w4 := w3.pure s4
    unfold moniker_Print.k9
    have := prL_len (g := x.id)
    refine w4.str (prS x.id) (by unfold prS; rw [Lib.size_eq]; simp; omega) fun h5 o5 w5 => ⟨_, _, rfl, w5.L, fin h5 o5 ?_⟩
    simpa [prS] using w5
  · have et : txt1 x = 64 :: hf x.H 16 := by unfold txt1; rw [if_neg (by omega), if_neg (by omega), if_pos q]
    rw [et] at fin
    refine ⟨by rw [q]; decide +kernel, 64, by rw [q]; decide +kernel, one 64 fun h3 o3 w3 => ?_⟩
    unfold moniker_Print.k16
    refine bcF (by rw [q]; rfl) ?_
    unfold moniker_Print.k15
    refine bcF (by rw [q]; rfl) ?_
    unfold moniker_Print.k14
    refine bcT (by rw [q]; rfl) ?_
    unfold moniker_Print.k13
    rw [Addr.add_mk]
    refine ⟨_, w3.M.H k, fmt_spec (en.step (sg.trans w3.st)) k.H fun d h4 d1 d2 d3 s4 => ⟨_, rfl, ?_⟩⟩
    have w4 := w3.pure s4
    have sz : ((⟨(hf x.H d).toArray⟩ : ByteArray).size : Int) = (d : Int) := by rw [Lib.size_eq]; simp [hf_len]
    unfold moniker_Print.k12
    rw [sz, wrapN (m := 16 - d) (by omega) (by omega)]
    refine repeat_spec (by omega) fun h5 s5 => ⟨_, rfl, ?_⟩
    have w5 := w4.pure s5
    have cat : (⟨(Array.mk (Array.toList (ByteArray.data ⟨(Lib.repeatL [(48 : UInt8)] (16 - d)).toArray⟩) ++ Array.toList (ByteArray.data ⟨(hf x.H d).toArray⟩)))⟩ : ByteArray) = ⟨(hf x.H 16).toArray⟩ := by
      rw [← hf16 d2 d3]
    unfold moniker_Print.k11
    rw [cat]
    refine ⟨?_, w5.str _ (by rw [Lib.size_eq]; simp [hf_len]; omega) fun h6 o6 w6 => ⟨_, _, rfl, w6.L, fin h6 o6 ?_⟩⟩
    · rw [Lib.size_eq, Lib.size_eq]
      simp [hf_len, repL]; omega
    · simpa using w6
  · have et : txt1 x = [46] := by unfold txt1; rw [if_neg (by omega), if_neg (by omega), if_neg (by omega)]
    rw [et] at fin
    refine ⟨by rw [q]; decide +kernel, 46, by rw [q]; decide +kernel, one 46 fun h3 o3 w3 => ?_⟩
    unfold moniker_Print.k16
    refine bcF (by rw [q]; rfl) ?_
    unfold moniker_Print.k15
    refine bcF (by rw [q]; rfl) ?_
    unfold moniker_Print.k14
    exact bcF (by rw [q]; rfl) ⟨w3.L, fin h3 o3 w3⟩
theorem Print_spec (en : Env h) {x : Raw} {rows : List Raw} {m : Mon} (t : Top h x rows m) (hk : rright x rows = true → ∀ h', Step [] h [] h' → K (.tuple #[.string ⟨(txtOf (partsOf x rows)).toArray⟩, .int .i64 0]) h')
    (hx : rright x rows = false → ∀ h', Step [] h [] h' → K (.tuple #[.string (⟨#[]⟩ : ByteArray), .int .i64 5]) h') : HC P moniker_Print.n #[.agg (mc x).toArray] h K := by
  have k := t.deep.ok
  refine moniker_Print.hc ?_
  unfold moniker_Print
  intro b0 hb0
  have S0 : Step [] h [] (h.put b0 (.cells (mc x).toArray T.api_Moniker (0, 0))) := Step.put (.inr hb0)
  have M0 : MB (h.put b0 (.cells (mc x).toArray T.api_Moniker (0, 0))) b0 x := put_self
  refine ⟨_, M0.all k, Check_spec (t.step S0) fun h0 s0 => ⟨_, rfl, ?_⟩⟩
  have S0 := S0.trans s0
  have M0 := M0.step s0
  unfold moniker_Print.k20
  cases hr : rright x rows with
  | false =>
    rw [if_neg (by simp)]
    exact bcT rfl (hx hr h0 S0)
  | true =>
    rw [if_pos rfl]
    refine bcF rfl ?_
    unfold moniker_Print.k19
    intro b1 hb1
    have n01 : b0 ≠ b1 := fun q => by rw [← q, M0] at hb1; cases hb1
    refine ⟨_, (show MB _ b0 x by show _ = _; rw [put_ne n01]; exact M0).all k, ?_⟩
    refine moniker_Parts.hc ?_
    unfold moniker_Parts
    intro bF hbF
    refine ⟨_, _, _, rfl, ?_⟩
    unfold moniker_Print.k18
    refine trueD_intro (by kernel_rfl) ?_
    intro l0 R0 hl0 hyall
    obtain ⟨H1, hH1⟩ : ∃ H1, H1 = (((h0.put b1 (.cells #[.pointer none, .slice none 0 0] T.strings_Builder (0, 0))).put bF (.cells (mc x).toArray T.api_Moniker (0, 0))).put l0 R0.ready) := ⟨_, rfl⟩
    have nlF : l0 ≠ bF := fun q => by rw [q, put_self] at hl0; cases hl0
    have nF1 : bF ≠ b1 := fun q => by rw [q, put_self] at hbF; cases hbF
    have nl1 : l0 ≠ b1 := fun q => by rw [q, put_ne (Ne.symm nF1), put_self] at hl0; cases hl0
    have fl : h0 l0 = none := by rw [put_ne nlF, put_ne nl1] at hl0; exact hl0
    have fF : h0 bF = none := by rw [put_ne nF1] at hbF; exact hbF
    have S1 : Step [] h0 [b1, l0] H1 := by
      rw [hH1]
      exact (((Step.put (.inr hb1)).trans (Step.put (.inr hbF))).trans (Step.put (.inr hl0))).weak (fun _ z => z) fun q hq => by
        simp at hq
        rcases hq with rfl | rfl
        · exact .inr (.inr hb1)
        · exact .inr (.inr fl)
    have HF : MB H1 bF x := by rw [hH1]; show _ = _; rw [put_ne (Ne.symm nlF), put_self]
    have HL : H1 l0 = some R0.ready := by rw [hH1, put_self]
    have HB : BldAt H1 b1 [] [] := by
      have B0 : BldAt (h0.put b1 (.cells #[.pointer none, .slice none 0 0] T.strings_Builder (0, 0))) b1 [] [] := BldAt.new hb1
      rw [hH1]
      exact B0.step (own := [bF, l0]) ((Step.put (.inl (by simp))).trans (Step.put (.inl (by simp)))) (by simp [Ne.symm nF1, Ne.symm nl1]) (by simp)
    have T0 : Top h0 x rows m := t.step S0
    have rps : ∀ r ∈ prt x rows, rpart r = true := by rw [prt_right hr]; exact parts_rp hr
    have pl : (prt x rows).length ≤ 64 := by rw [prt_right hr]; exact parts_len t hr
    have tl : ∀ i, (txtOf ((prt x rows).take i)).length ≤ 40000 := fun i => by
      have := txtOf_len (l := (prt x rows).take i) fun r hr => rps r (List.mem_of_mem_take hr)
      rw [List.length_take] at this
      omega
    refine partsIt_spec (l0 := l0) (bF := bF) (h := ((h0.put b1 (.cells #[.pointer none, .slice none 0 0] T.strings_Builder (0, 0))).put bF (.cells (mc x).toArray T.api_Moniker (0, 0))).put l0 R0.ready) (m := m) (by rw [← hH1]; exact T0.step S1.forget0) (by rw [← hH1]; exact HF)
      (fun i hh => ∃ o1, BldAt hh b1 (txtOf ((prt x rows).take i)) o1 ∧ hh l0 = some R0.ready ∧ l0 ∉ o1 ∧ Step [b1, l0] H1 (o1 ++ [b1, l0]) hh) (fun _ => False) ?_ ?_ ?_ ?_ ?_ (fun _ z => z.elim)
    · rw [← hH1]
      exact ⟨[], by simpa [txtOf] using HB, HL, by simp, Step.refl _ _⟩
    · rintro i hh hh' ⟨o1, g1, g2, g3, g4⟩ st
      exact ⟨o1, g1.step st (by simp) (by simp), by rw [st.keep l0 (by rw [g2]; simp) (by simp)]; exact g2, g3, g4.trans (by simpa using st.frame (o1 ++ [b1, l0]))⟩
    · rintro i hh ⟨o1, g1, g2, g3, g4⟩
      rw [← hH1]
      refine ⟨g4.keep bF (by rw [HF]; simp) (by simp [nF1, Ne.symm nlF]), fun q eq en hq => g4.keep _ hq ?_⟩
      have d := T0.blk q eq en
      have d1 : q.block ≠ b1 := fun z => d (by rw [z]; exact hb1)
      have d2 : q.block ≠ l0 := fun z => d (by rw [z]; exact fl)
      simp [d1, d2]
    · rintro i r hh C hi ⟨o1, g1, g2, g3, g4⟩ yes no
      have mr := List.mem_of_getElem? hi
      refine hyall (mc r).toArray hh C g2 ?_
      refine prBody (g := h) en (S0.trans (S1.trans g4)) (prt_ok T0 r mr) (rps r mr) g1 g2 g3 nl1 (by have := tl i; omega) fun o' h' q1 q2 q3 q4 => yes h' ⟨o', ?_, q2, q3, g4.trans q4⟩
      rw [List.take_add_one, hi]
      simpa [txtOf] using q1
    · rintro hh ⟨o1, g1, g2, g3, g4⟩
      rw [List.take_length] at g1
      unfold moniker_Print.k17
      refine .inl ⟨g2, ?_⟩
      have B' : BldAt (hh.put l0 R0.over) b1 (txtOf (prt x rows)) o1 := g1.step (own := [l0]) (Step.put (.inl (by simp))) (by simp [Ne.symm nl1]) fun q hq => by
        simp only [List.mem_cons, List.not_mem_nil, or_false]
        exact fun z => g3 (by rw [← z]; exact hq)
      refine bldString_spec B' (by have := tl (prt x rows).length; rw [List.take_length] at this; omega) fun h' o' s' => ⟨_, rfl, ?_⟩
      rw [prt_right hr]
      refine hk hr h' ?_
      have st : Step [] h0 (o1 ++ [b1] ++ [l0]) (hh.put l0 R0.over) := by simpa using (S1.trans g4).trans (Step.put (.inl (by simp)))
      exact (S0.trans (st.trans (s'.frame [l0]))).forget0
end Go.Den.Mon
end

section
set_option linter.unusedVariables false
set_option maxRecDepth 100000
namespace Go.Den.Mon
open Go Go.Den
variable {h : Hp} {K : Value → Hp → Prop}
/-- A text under way. -/
structure RP (h : Hp) (bs : List UInt8) (a : Option Addr) (c : Nat) (o : List Nat) (hh : Hp) : Prop where
  sl : SlAt hh T.uint8 1 AnyV a bs.length c (bvs bs) o
  st : Step [] h o hh
theorem RP.byte {hh : Hp} {bs : List UInt8} {a : Option Addr} {c b : Nat} {o : List Nat} {C : Value → Hp → Prop} (w : RP h bs a c o hh) (hb : hh b = none) (x : UInt8) (hl : bs.length < 1000000)
    (hk : ∀ a' c' o' h', RP h (bs ++ [x]) a' c' o' h' → C (.slice a' (bs ++ [x]).length c') h') :
    wpSem P (Builtin.append_ #[T.sl_uint8, T.sl_uint8] T.sl_uint8 #[.slice a bs.length c, .slice (some ⟨b, 0, none⟩) 1 1]) C (hh.put b (.cells #[.int .u8 (x.toNat : Int)] T.uint8 (0, 0))) := by
  refine pushV_wp slU8 (fun _ _ _ _ _ _ => trivial) w.sl hb (by omega) rfl fun a' c' o' h' s' st' => ?_
  have e : bvs bs ++ [Value.int .u8 (x.toNat : Int)] = bvs (bs ++ [x]) := by rw [bvs_app]; rfl
  rw [e] at s'
  have := hk a' c' o' h' ⟨by rw [List.length_append, List.length_singleton]; exact s', w.st.trans st'⟩
  rw [List.length_append, List.length_singleton] at this
  exact this
theorem RP.str {hh : Hp} {bs : List UInt8} {a : Option Addr} {c : Nat} {o : List Nat} {C : Value → Hp → Prop} {s : ByteArray} (w : RP h bs a c o hh) (hl : bs.length + s.size < 1000000)
    (hk : ∀ a' c' o' h', RP h (bs ++ s.data.toList) a' c' o' h' → C (.slice a' (bs ++ s.data.toList).length c') h') :
    wpSem P (Builtin.append_ #[T.sl_uint8, T.string] T.sl_uint8 #[.slice a bs.length c, .string s]) C hh := by
  have es : s.size = s.data.toList.length := Lib.size_eq _
  refine append_str (P := P) (Z := AnyV) (n := s.size) (cs := bvs s.data.toList) slU8 (by kernel_rfl) w.sl (fun _ _ _ _ _ _ => trivial) rfl rfl rfl (by omega) fun a' c' o' h' s1 _ _ st => ?_
  have := hk a' c' o' h' ⟨by rw [List.length_append, bvs_app, ← es]; exact s1, w.st.trans st⟩
  rw [List.length_append, ← es] at this
  exact this
theorem RP.pure {hh h' : Hp} {bs : List UInt8} {a : Option Addr} {c : Nat} {o : List Nat} (w : RP h bs a c o hh) (s : Step [] hh [] h') : RP h bs a c o h' :=
  ⟨w.sl.keep fun q hq => s.keep q (w.sl.mem q hq) (by simp), w.st.trans (by simpa using s.frame o)⟩
def pre (n i : Nat) : List UInt8 := (List.range i).map fun j => hexc (n / 16 ^ (15 - j) % 16)
theorem shr {n i : Nat} (hi : i ≤ 15) : Int.fdiv (n : Int) (2 ^ Min.min ((IntKind.wrap .u64 (60 - 4 * (i : Int))).toNat) 64) = ((n / 16 ^ (15 - i) : Nat) : Int) := by
  rw [wrapU64 (m := 60 - 4 * i) (by omega) (by omega), Int.toNat_natCast, show Min.min (60 - 4 * i) 64 = 4 * (15 - i) by omega]
  have e : (2 : Int) ^ (4 * (15 - i)) = ((16 ^ (15 - i) : Nat) : Int) := by rw [Int.pow_mul]; simp
  rw [e, Int.fdiv_eq_ediv_of_nonneg _ (Int.natCast_nonneg _)]
  rfl
end Go.Den.Mon
end

section
set_option linter.unusedVariables false
set_option maxRecDepth 100000
namespace Go.Den.Mon
open Go Go.Den

noncomputable section

def internal_strconv_ParseUint.k0 (K : Value → Hp → Prop) (h : Hp) : Prop :=
 K (.tuple #[.int .u64 0, .iface 159 (.int .i64 2)]) h
def internal_strconv_ParseUint.k1 (K : Value → Hp → Prop) (h1 : Hp) : Prop :=
 K (.tuple #[.int .u64 (IntKind.wrap .u64 ((IntKind.wrap .u64 (1 * (2 ^ Min.min ((IntKind.wrap .u64 64).toNat) 64))) - 1)), .iface 159 (.int .i64 1)]) h1
def internal_strconv_ParseUint.k2 (I0 : List Value → Hp → Prop) (b0 : Bool) (n1 : Int) (v1 : Value) (n2 : Int) (n4 : Int) (n3 : Int) (h1 : Hp) (x0 : List Value → Hp → Nat) : Prop :=
 (I0 [.bool b0, .int .u64 n1, v1, .int .u64 (IntKind.wrap .u64 ((IntKind.wrap .u64 (n2 * (IntKind.wrap .u64 16))) + (IntKind.wrap .u64 (IntKind.wrap .u8 (n4 - 48))))), .int .i64 (IntKind.wrap .i64 (n3 + 1))] h1) ∧ (x0 [.bool b0, .int .u64 n1, v1, .int .u64 (IntKind.wrap .u64 ((IntKind.wrap .u64 (n2 * (IntKind.wrap .u64 16))) + (IntKind.wrap .u64 (IntKind.wrap .u8 (n4 - 48))))), .int .i64 (IntKind.wrap .i64 (n3 + 1))] h1) < (x0 [.bool b0, .int .u64 n1, v1, .int .u64 n2, .int .i64 n3] h1)
def internal_strconv_ParseUint.k3 (n2 : Int) (n4 : Int) (K : Value → Hp → Prop) (h1 : Hp) (I0 : List Value → Hp → Prop) (b0 : Bool) (n1 : Int) (v1 : Value) (n3 : Int) (x0 : List Value → Hp → Nat) : Prop :=
 bcase (decide ((IntKind.wrap .u64 ((IntKind.wrap .u64 (1 * (2 ^ Min.min ((IntKind.wrap .u64 64).toNat) 64))) - 1)) < (IntKind.wrap .u64 ((IntKind.wrap .u64 (n2 * (IntKind.wrap .u64 16))) + (IntKind.wrap .u64 (IntKind.wrap .u8 (n4 - 48)))))))
 ((internal_strconv_ParseUint.k1 K h1))
 ((internal_strconv_ParseUint.k2 I0 b0 n1 v1 n2 n4 n3 h1 x0))
def internal_strconv_ParseUint.k4 (n2 : Int) (n4 : Int) (K : Value → Hp → Prop) (h1 : Hp) (I0 : List Value → Hp → Prop) (b0 : Bool) (n1 : Int) (v1 : Value) (n3 : Int) (x0 : List Value → Hp → Nat) : Prop :=
 bcase (decide ((IntKind.wrap .u64 ((IntKind.wrap .u64 (n2 * (IntKind.wrap .u64 16))) + (IntKind.wrap .u64 (IntKind.wrap .u8 (n4 - 48))))) < (IntKind.wrap .u64 (n2 * (IntKind.wrap .u64 16)))))
 ((internal_strconv_ParseUint.k1 K h1))
 ((internal_strconv_ParseUint.k3 n2 n4 K h1 I0 b0 n1 v1 n3 x0))
def internal_strconv_ParseUint.k5 (n2 : Int) (K : Value → Hp → Prop) (h1 : Hp) (n4 : Int) (I0 : List Value → Hp → Prop) (b0 : Bool) (n1 : Int) (v1 : Value) (n3 : Int) (x0 : List Value → Hp → Nat) : Prop :=
 bcase (decide ((1152921504606846976 : Int) ≤ n2))
 ((internal_strconv_ParseUint.k1 K h1))
 ((internal_strconv_ParseUint.k4 n2 n4 K h1 I0 b0 n1 v1 n3 x0))
def internal_strconv_ParseUint.k6 (n4 : Int) (K : Value → Hp → Prop) (h1 : Hp) (n2 : Int) (I0 : List Value → Hp → Prop) (b0 : Bool) (n1 : Int) (v1 : Value) (n3 : Int) (x0 : List Value → Hp → Nat) : Prop :=
 bcase (decide ((IntKind.wrap .u8 16) ≤ (IntKind.wrap .u8 (n4 - 48))))
 ((internal_strconv_ParseUint.k0 K h1))
 ((internal_strconv_ParseUint.k5 n2 K h1 n4 I0 b0 n1 v1 n3 x0))
def internal_strconv_ParseUint.k7 (I0 : List Value → Hp → Prop) (b0 : Bool) (n1 : Int) (v1 : Value) (n2 : Int) (n7 : Int) (n3 : Int) (h4 : Hp) (x0 : List Value → Hp → Nat) (h1 : Hp) : Prop :=
 (I0 [.bool b0, .int .u64 n1, v1, .int .u64 (IntKind.wrap .u64 ((IntKind.wrap .u64 (n2 * (IntKind.wrap .u64 16))) + (IntKind.wrap .u64 (IntKind.wrap .u8 ((IntKind.wrap .u8 (n7 - 97)) + 10))))), .int .i64 (IntKind.wrap .i64 (n3 + 1))] h4) ∧ (x0 [.bool b0, .int .u64 n1, v1, .int .u64 (IntKind.wrap .u64 ((IntKind.wrap .u64 (n2 * (IntKind.wrap .u64 16))) + (IntKind.wrap .u64 (IntKind.wrap .u8 ((IntKind.wrap .u8 (n7 - 97)) + 10))))), .int .i64 (IntKind.wrap .i64 (n3 + 1))] h4) < (x0 [.bool b0, .int .u64 n1, v1, .int .u64 n2, .int .i64 n3] h1)
def internal_strconv_ParseUint.k8 (n2 : Int) (n7 : Int) (K : Value → Hp → Prop) (h4 : Hp) (I0 : List Value → Hp → Prop) (b0 : Bool) (n1 : Int) (v1 : Value) (n3 : Int) (x0 : List Value → Hp → Nat) (h1 : Hp) : Prop :=
 bcase (decide ((IntKind.wrap .u64 ((IntKind.wrap .u64 (1 * (2 ^ Min.min ((IntKind.wrap .u64 64).toNat) 64))) - 1)) < (IntKind.wrap .u64 ((IntKind.wrap .u64 (n2 * (IntKind.wrap .u64 16))) + (IntKind.wrap .u64 (IntKind.wrap .u8 ((IntKind.wrap .u8 (n7 - 97)) + 10)))))))
 ((internal_strconv_ParseUint.k1 K h4))
 ((internal_strconv_ParseUint.k7 I0 b0 n1 v1 n2 n7 n3 h4 x0 h1))
def internal_strconv_ParseUint.k9 (n2 : Int) (n7 : Int) (K : Value → Hp → Prop) (h4 : Hp) (I0 : List Value → Hp → Prop) (b0 : Bool) (n1 : Int) (v1 : Value) (n3 : Int) (x0 : List Value → Hp → Nat) (h1 : Hp) : Prop :=
 bcase (decide ((IntKind.wrap .u64 ((IntKind.wrap .u64 (n2 * (IntKind.wrap .u64 16))) + (IntKind.wrap .u64 (IntKind.wrap .u8 ((IntKind.wrap .u8 (n7 - 97)) + 10))))) < (IntKind.wrap .u64 (n2 * (IntKind.wrap .u64 16)))))
 ((internal_strconv_ParseUint.k1 K h4))
 ((internal_strconv_ParseUint.k8 n2 n7 K h4 I0 b0 n1 v1 n3 x0 h1))
def internal_strconv_ParseUint.k10 (n2 : Int) (K : Value → Hp → Prop) (h4 : Hp) (n7 : Int) (I0 : List Value → Hp → Prop) (b0 : Bool) (n1 : Int) (v1 : Value) (n3 : Int) (x0 : List Value → Hp → Nat) (h1 : Hp) : Prop :=
 bcase (decide ((1152921504606846976 : Int) ≤ n2))
 ((internal_strconv_ParseUint.k1 K h4))
 ((internal_strconv_ParseUint.k9 n2 n7 K h4 I0 b0 n1 v1 n3 x0 h1))
def internal_strconv_ParseUint.k11 (n7 : Int) (K : Value → Hp → Prop) (h4 : Hp) (n2 : Int) (I0 : List Value → Hp → Prop) (b0 : Bool) (n1 : Int) (v1 : Value) (n3 : Int) (x0 : List Value → Hp → Nat) (h1 : Hp) : Prop :=
 bcase (decide ((IntKind.wrap .u8 16) ≤ (IntKind.wrap .u8 ((IntKind.wrap .u8 (n7 - 97)) + 10))))
 ((internal_strconv_ParseUint.k0 K h4))
 ((internal_strconv_ParseUint.k10 n2 K h4 n7 I0 b0 n1 v1 n3 x0 h1))
def internal_strconv_ParseUint.k12 (n4 : Int) (h3 : Hp) (K : Value → Hp → Prop) (n2 : Int) (I0 : List Value → Hp → Prop) (b0 : Bool) (n1 : Int) (v1 : Value) (n3 : Int) (x0 : List Value → Hp → Nat) (h1 : Hp) : Prop :=
 HC P internal_strconv_lower.n #[.int .u8 n4] h3 (fun v4 h4 => (∃ n7 : Int, (v4 = (.int .u8 n7)) ∧ (internal_strconv_ParseUint.k11 n7 K h4 n2 I0 b0 n1 v1 n3 x0 h1)))
def internal_strconv_ParseUint.k13 (n6 : Int) (n4 : Int) (h3 : Hp) (K : Value → Hp → Prop) (n2 : Int) (I0 : List Value → Hp → Prop) (b0 : Bool) (n1 : Int) (v1 : Value) (n3 : Int) (x0 : List Value → Hp → Nat) (h1 : Hp) : Prop :=
 bcase (decide (n6 ≤ 122))
 ((internal_strconv_ParseUint.k12 n4 h3 K n2 I0 b0 n1 v1 n3 x0 h1))
 ((internal_strconv_ParseUint.k0 K h3))
def internal_strconv_ParseUint.k14 (n4 : Int) (h2 : Hp) (K : Value → Hp → Prop) (n2 : Int) (I0 : List Value → Hp → Prop) (b0 : Bool) (n1 : Int) (v1 : Value) (n3 : Int) (x0 : List Value → Hp → Nat) (h1 : Hp) : Prop :=
 HC P internal_strconv_lower.n #[.int .u8 n4] h2 (fun v3 h3 => (∃ n6 : Int, (v3 = (.int .u8 n6)) ∧ (internal_strconv_ParseUint.k13 n6 n4 h3 K n2 I0 b0 n1 v1 n3 x0 h1)))
def internal_strconv_ParseUint.k15 (n5 : Int) (n4 : Int) (h2 : Hp) (K : Value → Hp → Prop) (n2 : Int) (I0 : List Value → Hp → Prop) (b0 : Bool) (n1 : Int) (v1 : Value) (n3 : Int) (x0 : List Value → Hp → Nat) (h1 : Hp) : Prop :=
 bcase (decide ((97 : Int) ≤ n5))
 ((internal_strconv_ParseUint.k14 n4 h2 K n2 I0 b0 n1 v1 n3 x0 h1))
 ((internal_strconv_ParseUint.k0 K h2))
def internal_strconv_ParseUint.k16 (n4 : Int) (h1 : Hp) (K : Value → Hp → Prop) (n2 : Int) (I0 : List Value → Hp → Prop) (b0 : Bool) (n1 : Int) (v1 : Value) (n3 : Int) (x0 : List Value → Hp → Nat) : Prop :=
 HC P internal_strconv_lower.n #[.int .u8 n4] h1 (fun v2 h2 => (∃ n5 : Int, (v2 = (.int .u8 n5)) ∧ (internal_strconv_ParseUint.k15 n5 n4 h2 K n2 I0 b0 n1 v1 n3 x0 h1)))
def internal_strconv_ParseUint.k17 (n4 : Int) (K : Value → Hp → Prop) (h1 : Hp) (n2 : Int) (I0 : List Value → Hp → Prop) (b0 : Bool) (n1 : Int) (v1 : Value) (n3 : Int) (x0 : List Value → Hp → Nat) : Prop :=
 bcase (decide (n4 ≤ 57))
 ((internal_strconv_ParseUint.k6 n4 K h1 n2 I0 b0 n1 v1 n3 x0))
 ((internal_strconv_ParseUint.k16 n4 h1 K n2 I0 b0 n1 v1 n3 x0))
def internal_strconv_ParseUint.k18 (n4 : Int) (K : Value → Hp → Prop) (h1 : Hp) (n2 : Int) (I0 : List Value → Hp → Prop) (b0 : Bool) (n1 : Int) (v1 : Value) (n3 : Int) (x0 : List Value → Hp → Nat) : Prop :=
 bcase (decide ((48 : Int) ≤ n4))
 ((internal_strconv_ParseUint.k17 n4 K h1 n2 I0 b0 n1 v1 n3 x0))
 ((internal_strconv_ParseUint.k16 n4 h1 K n2 I0 b0 n1 v1 n3 x0))
def internal_strconv_ParseUint.k19 (n3 : Int) (n0 : Nat) (a0 : Option Addr) (h1 : Hp) (K : Value → Hp → Prop) (n2 : Int) (I0 : List Value → Hp → Prop) (b0 : Bool) (n1 : Int) (v1 : Value) (x0 : List Value → Hp → Nat) : Prop :=
 ((0 : Int) ≤ n3) ∧ (n3 < (n0 : Int)) ∧ someD a0 (fun p0 => (∃ n4 : Int, ((h1.cell? (p0.add (n3.toNat * 1))) = (some (.int .u8 n4))) ∧ bcase ((n4 == 95))
 ((internal_strconv_ParseUint.k18 n4 K h1 n2 I0 b0 n1 v1 n3 x0))
 ((internal_strconv_ParseUint.k18 n4 K h1 n2 I0 b0 n1 v1 n3 x0))))
def internal_strconv_ParseUint.k20 (b1 : Bool) (K : Value → Hp → Prop) (h5 : Hp) (n2 : Int) : Prop :=
 bcase ((!b1))
 ((internal_strconv_ParseUint.k0 K h5))
 (K (.tuple #[.int .u64 n2, .nilIface]) h5)
def internal_strconv_ParseUint.k21 (s0 : ByteArray) (h1 : Hp) (K : Value → Hp → Prop) (n2 : Int) : Prop :=
 HC P internal_strconv_underscoreOK.n #[.string s0] h1 (fun v5 h5 => (∃ b1 : Bool, (v5 = (.bool b1)) ∧ (internal_strconv_ParseUint.k20 b1 K h5 n2)))
def internal_strconv_ParseUint.k22 (b0 : Bool) (s0 : ByteArray) (h1 : Hp) (K : Value → Hp → Prop) (n2 : Int) : Prop :=
 bcase (b0)
 ((internal_strconv_ParseUint.k21 s0 h1 K n2))
 (K (.tuple #[.int .u64 n2, .nilIface]) h1)
def internal_strconv_ParseUint.k23 (I0 : List Value → Hp → Prop) (h0 : Hp) (n0 : Nat) (a0 : Option Addr) (K : Value → Hp → Prop) (x0 : List Value → Hp → Nat) (s0 : ByteArray) : Prop :=
 (I0 [.bool Bool.false, .int .u64 0, .nilIface, .int .u64 0, .int .i64 0] h0) ∧ (∀ h1 : Hp, (∀ b0 : Bool, (∀ n1 : Int, (∀ v1 : Value, (∀ n2 : Int, (∀ n3 : Int, (I0 [.bool b0, .int .u64 n1, v1, .int .u64 n2, .int .i64 n3] h1 → bcase (decide (n3 < (n0 : Int)))
 ((internal_strconv_ParseUint.k19 n3 n0 a0 h1 K n2 I0 b0 n1 v1 x0))
 ((internal_strconv_ParseUint.k22 b0 s0 h1 K n2)))))))))
def internal_strconv_ParseUint.k24 (s0 : ByteArray) (K : Value → Hp → Prop) (h : Hp) : Prop :=
 ((0 : Int) ≤ (IntKind.wrap .u64 64)) ∧ wpSem P (convDark T.string T.sl_uint8 (.string s0)) (fun v0 h0 => (∃ a0 : Option Addr, (∃ n0 : Nat, (∃ c0 : Nat, (v0 = (.slice a0 n0 c0)) ∧ (∃ I0 : List Value → Hp → Prop, (∃ x0 : List Value → Hp → Nat, (internal_strconv_ParseUint.k23 I0 h0 n0 a0 K x0 s0))))))) h
def internal_strconv_ParseUint (s0 : ByteArray) (K : Value → Hp → Prop) (h : Hp) : Prop :=
 bcase (((ByteArray.toList s0) == []))
 ((internal_strconv_ParseUint.k0 K h))
 ((internal_strconv_ParseUint.k24 s0 K h))
end
end Go.Den.Mon
end

section
set_option linter.unusedVariables false
set_option maxRecDepth 100000
namespace Go.Den.Mon
open Go Go.Den
variable {h : Hp} {K : Value → Hp → Prop}
/-! ### Digits that are read -/
def lo (n : Nat) : Int := bits .or .u8 (n : Int) 32
end Go.Den.Mon
end

section
set_option linter.unusedVariables false
set_option maxRecDepth 100000
namespace Go.Den.Mon
open Go Go.Den
variable {h : Hp} {K : Value → Hp → Prop}
def uv (l : List UInt8) : Nat := l.foldl (fun v c => v * 16 + (hv c.toNat).toNat) 0
def uok (l : List UInt8) : Prop := ∀ c ∈ l, 0 ≤ hv c.toNat
end Go.Den.Mon
end

section
set_option linter.unusedVariables false
set_option maxRecDepth 100000
namespace Go.Den.Mon
open Go Go.Den
def la (b : UInt8) : UInt8 := if 65 ≤ b.toNat ∧ b.toNat ≤ 70 then (b.toNat + 32).toUInt8 else b
theorem la_toNat (b : UInt8) : (la b).toNat = if 65 ≤ b.toNat ∧ b.toNat ≤ 70 then b.toNat + 32 else b.toNat := by
  unfold la
  split
  · show (b.toNat + 32) % 256 = _; omega
  · rfl
/-! ### The places of what is printed -/
theorem pr_length {g : List Nat} : ∀ (k : Nat), (pr g k).length = at' k
  | 0 => rfl
  | k + 1 => by
    have ih := pr_length (g := g) k
    have hs : at' k + (sep k).length = pos k := by
      unfold sep
      cases hd : dash k with
      | true => simp [pos_dash hd]
      | false => simp [pos_plain hd]
    simp only [pr, List.length_append, hex2, List.length_cons, List.length_nil, ih]
    rw [at_succ]; omega
theorem pr_pre {g : List Nat} (k : Nat) : ∀ (m : Nat), ∃ t, pr g (k + m) = pr g k ++ t
  | 0 => ⟨[], by simp⟩
  | m + 1 => by
    obtain ⟨t, e⟩ := pr_pre k m
    refine ⟨t ++ (sep (k + m) ++ hex2 (g.getD (k + m) 0)), ?_⟩
    show pr g (k + m) ++ sep (k + m) ++ hex2 (g.getD (k + m) 0) = _
    rw [e]; simp
theorem prL_38 {g : List Nat} : (prL g).length = 38 := by unfold prL; rw [List.length_append, pr_length]; rfl
theorem prL_at {g : List Nat} {k : Nat} (hk : k < 16) : (prL g).getD (pos k) 0 = hexc (g.getD k 0 / 16) ∧ (prL g).getD (pos k + 1) 0 = hexc (g.getD k 0 % 16) := by
  obtain ⟨t, e⟩ := pr_pre (g := g) (k + 1) (15 - k)
  have e16 : k + 1 + (15 - k) = 16 := by omega
  rw [e16] at e
  have hl : (pr g k ++ sep k).length = pos k := by
    rw [List.length_append, pr_length]
    unfold sep
    cases hd : dash k with
    | true => simp [pos_dash hd]
    | false => simp [pos_plain hd]
  have : prL g = (pr g k ++ sep k) ++ (hexc (g.getD k 0 / 16) :: hexc (g.getD k 0 % 16) :: (t ++ [125])) := by
    unfold prL; rw [e]; simp [pr, hex2]
  rw [this]
  constructor
  · rw [List.getD, List.getElem?_append_right (by omega), hl, Nat.sub_self]; rfl
  · rw [List.getD, List.getElem?_append_right (by omega), hl, show pos k + 1 - pos k = 1 by omega]; rfl
theorem hv_hexcs : ((List.range 16).all fun d => hv (hexc d).toNat == (d : Int)) = true := by decide +kernel
theorem hv_hexc {d : Nat} (hd : d < 16) : hv (hexc d).toNat = (d : Int) := by simpa using List.all_eq_true.1 hv_hexcs d (List.mem_range.2 hd)

/-! ### The signs that are printed -/
def Q (b : UInt8) : Prop := b = 123 ∨ b = 45 ∨ b = 125 ∨ ∃ d, d < 16 ∧ b = hexc d
theorem pr_Q {g : List Nat} (hg : ∀ x ∈ g, x < 256) : ∀ (k : Nat), ∀ b ∈ pr g k, Q b
  | 0, b, hb => by simp [pr] at hb; exact .inl hb
  | k + 1, b, hb => by
    have hx : g.getD k 0 < 256 := by
      rw [List.getD]
      cases e : g[k]? with
      | none => decide
      | some x => exact hg x (List.mem_of_getElem? e)
    rcases List.mem_append.1 hb with hb | hb
    · rcases List.mem_append.1 hb with hb | hb
      · exact pr_Q hg k b hb
      · unfold sep at hb
        split at hb
        · simp at hb; exact .inr (.inl hb)
        · simp at hb
    · simp only [hex2, List.mem_cons, List.not_mem_nil, or_false] at hb
      rcases hb with rfl | rfl
      · exact .inr (.inr (.inr ⟨_, by omega, rfl⟩))
      · exact .inr (.inr (.inr ⟨_, by omega, rfl⟩))
theorem prL_Q {g : List Nat} (hg : isG g) : ∀ b ∈ prL g, Q b := fun b hb => by
  rcases List.mem_append.1 hb with hb | hb
  · exact pr_Q hg.2 16 b hb
  · simp at hb; exact .inr (.inr (.inl hb))
theorem Q_nat {b : UInt8} (q : Q b) : b.toNat = 123 ∨ b.toNat = 45 ∨ b.toNat = 125 ∨ (48 ≤ b.toNat ∧ b.toNat ≤ 57) ∨ (97 ≤ b.toNat ∧ b.toNat ≤ 102) := by
  rcases q with rfl | rfl | rfl | ⟨d, hd, rfl⟩
  · exact .inl rfl
  · exact .inr (.inl rfl)
  · exact .inr (.inr (.inl rfl))
  · rw [hexc_toNat hd]; split <;> omega
theorem lower_nat (b : UInt8) : (Lib.lowerB b).toNat = if 65 ≤ b.toNat ∧ b.toNat ≤ 90 then b.toNat + 32 else b.toNat := by
  have e : Lib.isUpperB b = decide (65 ≤ b.toNat ∧ b.toNat ≤ 90) := by
    unfold Lib.isUpperB
    rw [Bool.eq_iff_iff, Bool.and_eq_true, decide_eq_true_iff, decide_eq_true_iff, decide_eq_true_iff, UInt8.le_iff_toNat_le, UInt8.le_iff_toNat_le]
    exact Iff.rfl
  unfold Lib.lowerB
  rw [e]
  by_cases h : 65 ≤ b.toNat ∧ b.toNat ≤ 90
  · rw [if_pos (by simpa using h), if_pos h, UInt8.toNat_add]
    show (b.toNat + 32) % 256 = _; omega
  · rw [if_neg (by simpa using h), if_neg h]
theorem lower_la {b : UInt8} (q : Q (la b)) : Lib.lowerB b = la b := by
  apply UInt8.toNat_inj.1
  have := Q_nat q
  rw [la_toNat] at this
  rw [lower_nat, la_toNat]
  by_cases h1 : 65 ≤ b.toNat ∧ b.toNat ≤ 70
  · rw [if_pos h1, if_pos (by omega)]
  · rw [if_neg h1] at this
    rw [if_neg h1, if_neg (by omega)]
theorem hv_la (b : UInt8) : hv (la b).toNat = hv b.toNat := by
  rw [la_toNat]
  split
  · rename_i h
    unfold hv
    rw [if_neg (by omega), if_pos (by omega), if_neg (by omega), if_neg (by omega), if_pos h]; omega
  · rfl

/-! ### What the document takes -/
def Acc (l : List UInt8) (g : List Nat) : Prop := l.map la = prL g
section
variable {l : List UInt8} {g : List Nat}
theorem Acc.len (a : Acc l g) : l.length = 38 := by have := congrArg List.length a; rwa [List.length_map, prL_38] at this
theorem Acc.Q (a : Acc l g) (hg : isG g) : ∀ b ∈ l, Q (la b) := fun b hb => prL_Q hg _ (by rw [← a]; exact List.mem_map_of_mem hb)
theorem Acc.low (a : Acc l g) (hg : isG g) : Lib.toLowerA l = prL g := by
  rw [← a]
  exact List.map_congr_left fun b hb => lower_la (a.Q hg b hb)
theorem Acc.hv (a : Acc l g) {p : Nat} (hp : p < 38) : hv (by' l p) = hv ((prL g).getD p 0).toNat := by
  have hl := a.len
  have e : (prL g).getD p 0 = la (l.getD p 0) := by
    rw [← a, List.getD, List.getD, List.getElem?_map, List.getElem?_eq_getElem (by omega)]; rfl
  rw [e, hv_la]; rfl
theorem Acc.dig (a : Acc l g) (hg : isG g) {i : Nat} (hi : i < 16) : Go.Den.Mon.hv (by' l (pos i)) = ((g.getD i 0 / 16 : Nat) : Int) ∧ Go.Den.Mon.hv (by' l (pos i + 1)) = ((g.getD i 0 % 16 : Nat) : Int) := by
  have hp := pos_lt hi
  have hx : g.getD i 0 < 256 := by
    rw [List.getD]
    cases e : g[i]? with
    | none => decide
    | some x => exact hg.2 x (List.mem_of_getElem? e)
  rw [a.hv (by omega), a.hv (by omega), (prL_at hi).1, (prL_at hi).2]
  exact ⟨hv_hexc (by omega), hv_hexc (by omega)⟩
theorem Acc.part (a : Acc l g) (hg : isG g) : part l 16 = g := by
  apply List.ext_getElem?
  intro j
  unfold Go.Den.Mon.part
  rw [List.getElem?_map]
  by_cases hj : j < 16
  · rw [List.getElem?_range hj, Option.map_some, if_pos hj, List.getElem?_eq_getElem (by rw [hg.1]; exact hj)]
    have h := a.dig hg hj
    have e : g.getD j 0 = g[j]'(by rw [hg.1]; exact hj) := by rw [List.getD, List.getElem?_eq_getElem]; rfl
    rw [e] at h
    unfold val
    rw [h.1, h.2]
    congr 1
    omega
  · rw [List.getElem?_eq_none (by simp; omega), List.getElem?_eq_none (by rw [hg.1]; omega)]; rfl
theorem Acc.acc (a : Acc l g) (hg : isG g) : acc l (Lib.toLowerA l) := ⟨a.len, fun i hi => by
  have h := a.dig hg hi
  exact ⟨by rw [h.1]; omega, by rw [h.2]; omega⟩, by rw [a.part hg, a.low hg]⟩
end

/-! ### What the document reads, digit by digit -/
def lead (g : List Nat) (k : Nat) : List Nat := (List.range 16).map fun j => if j < k then g.getD j 0 else 0
/-! ### Bytes beyond ASCII -/
end Go.Den.Mon
end

section
set_option linter.unusedVariables false
set_option maxRecDepth 100000
namespace Go.Den.Mon
open Go Go.Den
variable {h : Hp} {K : Value → Hp → Prop}
/-- A text of these bytes. -/
def str (l : List UInt8) : ByteArray := ⟨l.toArray⟩
theorem str_l {l : List UInt8} : (str l).data.toList = l := by simp [str]
theorem str_self {s : ByteArray} : str s.data.toList = s := by unfold str; simp
theorem str_size {l : List UInt8} : (str l).size = l.length := by rw [Lib.size_eq, str_l]
theorem str_get {l : List UInt8} {p : Nat} {c : UInt8} (hp : l[p]? = some c) : (str l)[p]? = some c := ba_some (by rw [str_l]; exact hp)
theorem sub_eq {s : ByteArray} {lo hi : Nat} : (⟨((#[] ++ Array.extract (ByteArray.data s) lo (lo + (hi - lo))) ++ Array.extract #[] (0 + Min.min (hi - lo) ((ByteArray.data s).size - lo)) 0)⟩ : ByteArray) = str ((s.data.toList.drop lo).take (hi - lo)) := by
  unfold str
  congr 1
  apply Array.ext'
  simp only [Array.toList_append, Array.toList_extract, List.toList_toArray, List.nil_append]
  simp [List.extract_eq_take_drop]
theorem cut1 {c : UInt8} {l : List UInt8} : (⟨((#[] ++ Array.extract (ByteArray.data (str (c :: l))) ((1 : Int).toNat) ((1 : Int).toNat + ((str (c :: l)).size - (1 : Int).toNat))) ++ Array.extract #[] (0 + Min.min ((str (c :: l)).size - (1 : Int).toNat) ((ByteArray.data (str (c :: l))).size - (1 : Int).toNat)) 0)⟩ : ByteArray) = str l := by
  rw [sub_eq, str_l, str_size]
  show str (l.take (l.length + 1 - 1)) = _
  rw [Nat.add_sub_cancel, List.take_length]
def sgn (c : UInt8) : Bool := spc c && !(c.toNat == 92)
theorem sgn_neg (c : UInt8) : decide (Lib.indexByte signs.data.toList c < 0) = !sgn c := by
  have := idx_sign c
  unfold sgn
  rw [← this, ← decide_not]
  exact decide_eq_decide.2 (by omega)
/-- An item's text, and what is behind it. -/
def rdItem : List UInt8 → Option (List UInt8 × List UInt8)
  | [] => some ([], [])
  | c :: l => if sgn c then some ([], c :: l) else if c = 92 then (match l with | [] => none | d :: l' => if spc d then (rdItem l').map fun q => (d :: q.1, q.2) else none) else (rdItem l).map fun q => (c :: q.1, q.2)
theorem rdItem_c {c : UInt8} {l : List UInt8} : rdItem (c :: l) = if sgn c then some ([], c :: l) else if c = 92 then (match l with | [] => none | d :: l' => if spc d then (rdItem l').map fun q => (d :: q.1, q.2) else none) else (rdItem l).map fun q => (c :: q.1, q.2) := by
  conv => lhs; rw [rdItem.eq_def]
theorem sgn92 : sgn 92 = false := by decide +kernel
theorem nat92 {c : UInt8} : ((c.toNat : Int) == 92) = decide (c = 92) := by
  rw [Bool.eq_iff_iff, beq_iff_eq, decide_eq_true_iff]
  constructor
  · intro q
    rw [← toU8 c, show c.toNat = 92 by omega]; rfl
  · rintro rfl; rfl
theorem item_spec {l : List UInt8} (hl : l.length < 500000) (k1 : ∀ t r, rdItem l = some (t, r) → ∀ h', Step [] h [] h' → K (.tuple #[.string (str t), .string (str r), .bool true]) h')
    (k0 : rdItem l = none → ∀ h', Step [] h [] h' → K (.tuple #[.string (⟨#[]⟩ : ByteArray), .string (⟨#[]⟩ : ByteArray), .bool false]) h') : HC P moniker_item.n #[.string (str l)] h K := by
  refine moniker_item.hc ?_
  unfold moniker_item
  obtain ⟨I0, hI0⟩ : ∃ I0 : List Value → Hp → Prop, I0 = fun vs hh => ∃ (t r : List UInt8) (a : Option Addr) (c : Nat) (o : List Nat), vs = [.string (⟨#[]⟩ : ByteArray), .string (⟨#[]⟩ : ByteArray), .bool false, .slice a t.length c, .string (str r)] ∧ t.length + r.length ≤ l.length ∧ rdItem l = (rdItem r).map (fun q => (t ++ q.1, q.2)) ∧ RP h t a c o hh := ⟨_, rfl⟩
  obtain ⟨x0, hx0⟩ : ∃ x0 : List Value → Hp → Nat, x0 = fun vs _ => match vs with | [_, _, _, _, .string s] => s.size | _ => 0 := ⟨_, rfl⟩
  refine ⟨I0, x0, ?_, ?_⟩
  · rw [hI0]
    refine ⟨[], l, none, 0, [], rfl, by simp, ?_, ⟨.none, Step.refl _ _⟩⟩
    cases rdItem l <;> simp
  intro h0 s1 s2 b0 a0 n0 c0 s3 hin
  rw [hI0] at hin
  obtain ⟨t, r, a, c, o, he, hlen, hrd, w⟩ := hin
  have e1' : s1 = (⟨#[]⟩ : ByteArray) ∧ s2 = (⟨#[]⟩ : ByteArray) ∧ b0 = false ∧ a0 = a ∧ n0 = t.length ∧ c0 = c ∧ s3 = str r := by cases he; exact ⟨rfl, rfl, rfl, rfl, rfl, rfl, rfl⟩
  clear he
  obtain ⟨rfl, rfl, rfl, rfl, rfl, rfl, rfl⟩ := e1'
  have exit : ∀ {r'} , r' = r → (rdItem r = some ([], r)) → moniker_item.k9 a0 t.length c0 K (str r') h0 := fun {r'} er e => by
    subst er
    unfold moniker_item.k9
    refine bytesStr_wp w.sl.src ⟨_, rfl, k1 t r' ?_ h0 w.st.forget0⟩
    rw [hrd, e]; simp
  have fail : rdItem r = none → K (.tuple #[.string (⟨#[]⟩ : ByteArray), .string (⟨#[]⟩ : ByteArray), .bool false]) h0 := fun e => k0 (by rw [hrd, e]; rfl) h0 w.st.forget0
  rw [str_size]
  refine bcase_intro (fun hc => ?_) fun hc => ?_
  case refine_2 =>
    have : r = [] := List.length_eq_zero_iff.1 (by have := of_decide_eq_false hc; omega)
    exact exit rfl (by rw [this]; rfl)
  obtain ⟨d, r, rfl⟩ : ∃ d r', r = d :: r' := by
    cases r with
    | nil => simp at hc
    | cons d r => exact ⟨d, r, rfl⟩
  simp only [List.length_cons] at hlen
  -- one byte more
  have more : ∀ (e : UInt8) (r2 : List UInt8) (a' : Option Addr) (c' : Nat) (o' : List Nat) (h' : Hp), r2.length ≤ r.length → rdItem (d :: r) = (rdItem r2).map (fun q => (e :: q.1, q.2)) → RP h (t ++ [e]) a' c' o' h' →
      I0 [.string (⟨#[]⟩ : ByteArray), .string (⟨#[]⟩ : ByteArray), .bool false, .slice a' (t ++ [e]).length c', .string (str r2)] h' ∧ x0 [.string (⟨#[]⟩ : ByteArray), .string (⟨#[]⟩ : ByteArray), .bool false, .slice a' (t ++ [e]).length c', .string (str r2)] h' < x0 [.string (⟨#[]⟩ : ByteArray), .string (⟨#[]⟩ : ByteArray), .bool false, .slice a0 t.length c0, .string (str (d :: r))] h0 := fun e r2 a' c' o' h' le er w' => by
    refine ⟨?_, ?_⟩
    · rw [hI0]
      refine ⟨t ++ [e], r2, a', c', o', rfl, by simp; omega, ?_, w'⟩
      rw [hrd, er, Option.map_map]
      congr 1
      funext q
      simp
    · rw [hx0]
      show (str r2).size < (str (d :: r)).size
      rw [str_size, str_size, List.length_cons]; omega
  unfold moniker_item.k11
  refine ⟨by omega, d, str_get rfl, sIndex_spec ⟨_, rfl, ?_⟩⟩
  rw [toU8]
  unfold moniker_item.k10
  rw [sgn_neg]
  refine bcase_intro (fun hs => ?_) fun hs => ?_
  case refine_2 =>
    have hs : sgn d = true := by simpa using hs
    exact exit rfl (by rw [rdItem_c, if_pos hs])
  have hs : sgn d = false := by simpa using hs
  unfold moniker_item.k8
  refine ⟨by omega, d, str_get rfl, ?_⟩
  rw [nat92]
  refine bcase_intro (fun h92 => ?_) fun h92 => ?_
  · have h92 : d = 92 := of_decide_eq_true h92
    subst h92
    unfold moniker_item.k5
    rw [cut1, txt_nil, str_size, str_size]
    refine ⟨by omega, by rw [List.length_cons]; omega, bcase_intro (fun hz => ?_) fun hz => ?_⟩
    · have hz : r = [] := List.length_eq_zero_iff.1 (of_decide_eq_true hz)
      exact fail (by rw [hz, rdItem_c, if_neg (by rw [sgn92]; simp), if_pos rfl])
    have hz := of_decide_eq_false hz
    obtain ⟨e, r, rfl⟩ : ∃ e r', r = e :: r' := by
      cases r with
      | nil => simp at hz
      | cons e r => exact ⟨e, r, rfl⟩
    have hr : rdItem (92 :: e :: r) = if spc e then (rdItem r).map fun q => (e :: q.1, q.2) else none := by
      rw [rdItem_c, if_neg (by rw [sgn92]; simp), if_pos rfl]
    have push : ∀ {hX : Hp}, hX = h0 → spc e = true → moniker_item.k1 (str (92 :: e :: r)) hX a0 t.length c0 I0 (⟨#[]⟩ : ByteArray) (⟨#[]⟩ : ByteArray) false x0 h0 := fun {hX} eX hp => by
      subst eX
      unfold moniker_item.k1
      rw [cut1]
      refine ⟨by omega, e, str_get rfl, fun b6 hb6 => w.byte hb6 e (by omega) fun a' c' o' h' w' => ⟨_, _, _, rfl, ?_⟩⟩
      unfold moniker_item.k0
      rw [cut1, cut1, str_size]
      exact ⟨by omega, by rw [List.length_cons]; omega, more e r a' c' o' h' (by simp) (by rw [hr, if_pos hp]) w'⟩
    unfold moniker_item.k4
    rw [cut1]
    refine ⟨by omega, e, str_get rfl, ?_⟩
    rw [show ((e.toNat : Int) != 92) = !decide (e = 92) by rw [← nat92]; rfl]
    refine bcase_intro (fun h2 => ?_) fun h2 => ?_
    · have h2 : ¬ e = 92 := by simpa using h2
      unfold moniker_item.k3
      rw [cut1]
      refine ⟨by omega, e, str_get rfl, sIndex_spec ⟨_, rfl, ?_⟩⟩
      rw [toU8]
      unfold moniker_item.k2
      rw [sgn_neg]
      have es : sgn e = spc e := by
        unfold sgn
        rw [show (e.toNat == 92) = false by
          rw [beq_eq_false_iff_ne]
          exact fun q => h2 (by rw [← toU8 e, q]; rfl)]
        simp
      rw [es]
      refine bcase_intro (fun hp => ?_) fun hp => push rfl (by simpa using hp)
      exact fail (by rw [hr, if_neg (by simpa using hp)])
    · have h2 : e = 92 := by simpa using h2
      exact push rfl (by rw [h2]; decide +kernel)
  · have h92 : ¬ d = 92 := of_decide_eq_false h92
    have hr : rdItem (d :: r) = (rdItem r).map fun q => (d :: q.1, q.2) := by rw [rdItem_c, if_neg (by simp [hs]), if_neg h92]
    unfold moniker_item.k7
    refine ⟨by omega, d, str_get rfl, fun b8 hb8 => w.byte hb8 d (by omega) fun a' c' o' h' w' => ⟨_, _, _, rfl, ?_⟩⟩
    unfold moniker_item.k6
    rw [cut1, str_size]
    exact ⟨by omega, by rw [List.length_cons]; omega, more d r a' c' o' h' (Nat.le_refl _) hr w'⟩
end Go.Den.Mon
end

section
set_option linter.unusedVariables false
set_option maxRecDepth 100000
namespace Go.Den.Mon
open Go Go.Den
variable {h : Hp} {K : Value → Hp → Prop}
def kd (k : Int) : Raw := ⟨k, z16, ⟨#[]⟩, 0, none, 0, 0⟩
open Classical in
/-- One part, and what is behind it. -/
noncomputable def rd : List UInt8 → Option (Raw × List UInt8)
  | [] => none
  | c :: l =>
    if c = 33 then (rdItem l).map fun q => ({ kd 1 with txt := str q.1 }, q.2)
    else if c = 58 then (if 38 ≤ l.length ∧ acc (l.take 38) (Lib.toLowerD (l.take 38)) ∧ prL (part (l.take 38) 16) = l.take 38 then some ({ kd 2 with id := part (l.take 38) 16 }, l.drop 38) else none)
    else if c = 64 then (if 16 ≤ l.length ∧ uok (l.take 16) ∧ Lib.toLowerA (l.take 16) = l.take 16 then some ({ kd 3 with H := uv (l.take 16) }, l.drop 16) else none)
    else if c = 46 then some (kd 4, l) else none
/-- So many parts, one behind the other. -/
inductive Rd (s : List UInt8) : List Raw → List UInt8 → Prop
  | nil : Rd s [] s
  | snoc {L : List Raw} {r r' : List UInt8} {x : Raw} : Rd s L r → rd r = some (x, r') → Rd s (L ++ [x]) r'
/-- What is read so far. -/
structure PS (h : Hp) (b0 : Nat) (l0 : List UInt8) (L : List Raw) (a : Option Addr) (c : Nat) (o : List Nat) (hh : Hp) : Prop where
  sl : SlAt hh T.api_Moniker 20 AnyV a L.length c (mcs L) o
  z : hh b0 = some (.cells zMon T.api_Moniker (0, 0))
  nb : b0 ∉ o
  f0 : h b0 = none
  st : Step [] h (o ++ [b0]) hh
  ok : ∀ r ∈ L, r.Ok
  pl : ∀ r ∈ L, r.sn = 0 ∧ r.sa = none ∧ r.sc = 0 ∧ 1 ≤ r.kind ∧ r.kind ≤ 4
section
variable {b0 : Nat} {l0 : List UInt8} {L : List Raw} {a : Option Addr} {c : Nat} {o : List Nat} {hh h' : Hp}
theorem PS.step (w : PS h b0 l0 L a c o hh) (s : Step [] hh [] h') : PS h b0 l0 L a c o h' :=
  ⟨w.sl.keep fun q hq => s.keep q (w.sl.mem q hq) (by simp), s.keepB0 w.z, w.nb, w.f0, w.st.trans (by simpa using s.frame (o ++ [b0])), w.ok, w.pl⟩
theorem PS.toH (w : PS h b0 l0 L a c o hh) : Step [] h [] hh := w.st.forget0
theorem PS.free (w : PS h b0 l0 L a c o hh) {b : Nat} (hb : hh b = none) : h b = none := Classical.byContradiction fun e => w.st.dom b e hb
/-- What is refused. -/
theorem fail0 {h3 : Hp} {b5 : Nat} {y : Raw} (k : y.Ok) (hb5 : h3 b5 = none) (z : h3 b0 = some (.cells zMon T.api_Moniker (0, 0))) (f0 : h b0 = none) (s3 : Step [] h [] h3) (hx : ∀ h', Step [] h [] h' → K (.tuple #[.agg (mc nl).toArray, .int .i64 18]) h') : moniker_Parse.k0 h3 b5 (mc y).toArray b0 K := by
  have n50 : b0 ≠ b5 := fun e => by rw [← e, z] at hb5; cases hb5
  unfold moniker_Parse.k0
  rw [newM k hb5]
  refine ⟨trivial, rfl, by simp [cellish], retM2 (y := nl) (C := fun v hh => K (.tuple #[v, .int .i64 18]) hh) nl_ok (by rw [put_ne n50]; exact z) (hx _ ?_)⟩
  have s4 : Step [] h [] (h3.put b5 (.cells (mc y).toArray T.api_Moniker (0, 0))) := s3.trans (Step.put (.inr hb5))
  refine ⟨fun q hq _ => ?_, by simp, fun q hq => ?_⟩
  · rw [put_ne fun e => hq (by rw [e]; exact f0)]
    exact s4.keep q hq (by simp)
  · unfold Hp.put; split
    · simp
    · exact s4.dom q hq
theorem PS.of (w : PS h b0 l0 L a c o hh) {C : Value → Hp → Prop} (hC : ∀ y n h3, y.Ok → PS h b0 l0 L a c o h3 → C (.tuple #[.agg (mc y).toArray, .int .i64 n]) h3) : HC P moniker_of.n #[.slice a L.length c] hh C :=
  gOf_got w.sl.src w.ok (fun _ h3 s3 => hC _ _ h3 (ofRaw_ok w.ok) (w.step s3)) fun _ h3 s3 => hC _ _ h3 nl_ok (w.step s3)
end
end Go.Den.Mon
end

section
set_option linter.unusedVariables false
set_option maxRecDepth 100000
namespace Go.Den.Mon
open Go Go.Den
variable {h : Hp} {K : Value → Hp → Prop}
theorem toList_str {l : List UInt8} : ByteArray.toList (str l) = l := by rw [ByteArray.toList_eq, str_l]
theorem beq_dec {l m : List UInt8} : (l == m) = decide (l = m) := by rw [Bool.eq_iff_iff, beq_iff_eq, decide_eq_true_iff]
end Go.Den.Mon
end

section
set_option linter.unusedVariables false
set_option maxRecDepth 100000
namespace Go.Den.Mon
open Go Go.Den
variable {h : Hp} {K : Value → Hp → Prop}
section
variable {b0 : Nat} {l0 : List UInt8} {L : List Raw} {a : Option Addr} {c : Nat} {o : List Nat} {hh h' : Hp}
theorem PS.push (w : PS h b0 l0 L a c o hh) {x : Raw} (k : x.Ok) (hp : x.sn = 0 ∧ x.sa = none ∧ x.sc = 0 ∧ 1 ≤ x.kind ∧ x.kind ≤ 4) {a' : Option Addr} {c' : Nat} {o' : List Nat} (s : SlAt h' T.api_Moniker 20 AnyV a' (L ++ [x]).length c' (mcs (L ++ [x])) o') (st : Step o hh o' h') : PS h b0 l0 (L ++ [x]) a' c' o' h' := by
  refine ⟨s, by rw [st.keep b0 (by rw [w.z]; simp) w.nb]; exact w.z, fun q => ?_, w.f0, w.st.trans (st.frame [b0]), fun r hr => ?_, fun r hr => ?_⟩
  · rcases st.own b0 q with z | z
    · exact w.nb z
    · rw [w.z] at z; cases z
  · rcases List.mem_append.1 hr with z | z
    · exact w.ok r z
    · simp at z; rw [z]; exact k
  · rcases List.mem_append.1 hr with z | z
    · exact w.pl r z
    · simp at z; rw [z]; exact hp
/-- A refusal, behind the row's moniker. -/
theorem PS.exit (w : PS h b0 l0 L a c o hh) (hx : ∀ h', Step [] h [] h' → K (.tuple #[.agg (mc nl).toArray, .int .i64 18]) h') {y : Raw} (k : y.Ok) {cnd : Bool} {B : Nat → Prop} (e : cnd = true) : ∀ b : Nat, hh b = none → ((mc y).toArray.size = 20) ∧ (∀ v : Value, (v ∈ (Array.toList (mc y).toArray : List Value) → (Den.cellish v) = Bool.true)) ∧ (Free (hh.put b (.cells zMon T.api_Moniker (0, 0))) ⟨b, 0, none⟩ 20) ∧ bcase cnd (moniker_Parse.k0 hh b (mc y).toArray b0 K) (B b) :=
  fun b hb => ⟨by simpa using mc_len k, mc_cellish, freeM, bcT e (fail0 k hb w.z w.f0 w.toH hx)⟩
end
end Go.Den.Mon
end

section
set_option linter.unusedVariables false
set_option maxRecDepth 100000
namespace Go.Den.Mon
open Go Go.Den
/-! ### Items -/
/-! ### Numbers -/
/-! ### Parts -/
/-- As the reader makes it. -/
structure Cn (r : Raw) : Prop where
  ok : r.Ok
  sn : r.sn = 0
  sa : r.sa = none
  sc : r.sc = 0
  k : r.kind = 1 ∨ r.kind = 2 ∨ r.kind = 3 ∨ r.kind = 4
  i1 : r.kind ≠ 2 → r.id = z16
  h1 : r.kind ≠ 3 → r.H = 0
  t1 : r.kind ≠ 1 → r.txt = ⟨#[]⟩
theorem Cn.of {r : Raw} (ok : r.Ok) (rp : rpart r = true) (sa : r.sa = none) (sc : r.sc = 0) : Cn r := by
  have sz : ∀ {b : ByteArray}, b.size = 0 → b = ⟨#[]⟩ := fun {b} e => by
    rw [← str_self (s := b), show b.data.toList = [] from List.length_eq_zero_iff.1 (by rw [← Lib.size_eq]; exact e)]; rfl
  unfold rpart at rp
  split at rp
  · rename_i q
    have d := of_decide_eq_true rp
    exact ⟨ok, d.2.2.1, sa, sc, .inl q, fun _ => d.1, fun _ => d.2.1, fun z => absurd q z⟩
  · split at rp
    · rename_i q
      have d := of_decide_eq_true rp
      exact ⟨ok, d.2.2, sa, sc, .inr (.inl q), fun z => absurd q z, fun _ => d.2.1, fun _ => sz d.1⟩
    · split at rp
      · rename_i q
        have d := of_decide_eq_true rp
        exact ⟨ok, d.2.2, sa, sc, .inr (.inr (.inl q)), fun _ => d.2.1, fun z => absurd q z, fun _ => sz d.1⟩
      · split at rp
        · rename_i q
          have d := of_decide_eq_true rp
          exact ⟨ok, d.2.2.2, sa, sc, .inr (.inr (.inr q)), fun _ => d.2.1, fun _ => d.2.2.1, fun _ => sz d.1⟩
        · cases rp
end Go.Den.Mon
end

section
set_option linter.unusedVariables false
set_option maxRecDepth 100000
namespace Go.Den.Mon
open Go Go.Den
variable {h : Hp} {K : Value → Hp → Prop}
noncomputable def rdn : Nat → List UInt8 → Option (List Raw × List UInt8)
  | 0, s => some ([], s)
  | n + 1, s => (rdn n s).bind fun q => (rd q.2).map fun p => (q.1 ++ [p.1], p.2)
theorem Rd.rdn {s r : List UInt8} {L : List Raw} (w : Rd s L r) : rdn L.length s = some (L, r) := by
  induction w with
  | nil => rfl
  | @snoc L r r' x w e ih =>
    rw [List.length_append, List.length_singleton, Go.Den.Mon.rdn, ih]
    simp [e]
theorem rdn_stop {s r : List UInt8} {L : List Raw} {n : Nat} (e : rdn n s = some (L, r)) (hr : rd r = none) : ∀ k, rdn (n + 1 + k) s = none
  | 0 => by
    show rdn (n + 1) s = none
    rw [rdn, e]; simp [hr]
  | k + 1 => by
    show rdn (n + 1 + k + 1) s = none
    rw [rdn, rdn_stop e hr k]; rfl
theorem rd_nil : rd [] = none := by rw [rd]
theorem Rd.more {s r : List UInt8} {L L2 : List Raw} (w : Rd s L r) (w2 : Rd s L2 []) : L.length ≤ L2.length := by
  rcases Nat.lt_or_ge L2.length L.length with q | q
  · have := rdn_stop w2.rdn rd_nil (L.length - (L2.length + 1))
    rw [show L2.length + 1 + (L.length - (L2.length + 1)) = L.length by omega, w.rdn] at this
    cases this
  · exact q
/-! ### The program -/
theorem PS.ret {b0 : Nat} {l0 : List UInt8} {L : List Raw} {a : Option Addr} {c : Nat} {o : List Nat} {hh : Hp} {X : Obj} (w : PS h b0 l0 L a c o hh) : Step [] h [] (hh.put b0 X) := by
  refine ⟨fun q hq _ => ?_, by simp, fun q hq => ?_⟩
  · rw [put_ne fun e => hq (by rw [e]; exact w.f0)]
    exact w.toH.keep q hq (by simp)
  · unfold Hp.put; split
    · simp
    · exact w.toH.dom q hq
end Go.Den.Mon
end

section
set_option linter.unusedVariables false
set_option maxRecDepth 100000
namespace Go.Den.Mon
open Go Go.Den
variable {h : Hp} {K : Value → Hp → Prop}
def itm (l : List UInt8) : Raw := { kd 1 with txt := str l }
theorem itm_ok {l : List UInt8} (hl : l.length ≤ 256) : (itm l).Ok ∧ rpart (itm l) = true ∧ (itm l).sa = none ∧ (itm l).sc = 0 := by
  refine ⟨⟨z16_is, by show (0 : Nat) < _; omega, by show _ ≤ (1 : Int) ∧ (1 : Int) < _; omega, by show (str l).size ≤ _; rw [str_size]; omega⟩, ?_, rfl, rfl⟩
  unfold rpart
  rw [if_pos (show (itm l).kind = 1 from rfl)]
  exact decide_eq_true ⟨rfl, rfl, rfl, by show (str l).size ≤ 256; rw [str_size]; exact hl⟩
theorem Deep.says {x : Raw} {m : Mon} (d : Deep h x m) : ∃ ms, m = .mk x.kind x.id x.txt.data.toList x.H ms := by
  cases d with
  | mk _ _ _ _ _ _ _ => exact ⟨_, rfl⟩
/-- What a moniker of two parts says. -/
theorem Got.two {y a b : Raw} (g : Got h [a, b] y) (ka : rpart a = true) : y.Ok ∧ y.kind = 5 ∧ y.sn = 2 ∧ SrcAt h 20 (.slice y.sa y.sn y.sc) y.sn (mcs [a, b]) := by
  obtain ⟨rows, t, e, f⟩ := g
  have hk : y.kind = 5 := by
    obtain ⟨ms, e0⟩ := t.deep.says
    injection e0 with e1' _ _ _ _
    exact e1'.symm
  have hr : rows = [a, b] := by
    unfold partsOf at e
    rw [if_neg (by omega), if_pos hk] at e
    exact e
  subst hr
  exact ⟨t.deep.ok, hk, t.len.symm, t.src⟩
theorem Got.zero {y : Raw} (g : Got h [] y) : y.Ok ∧ y.kind = 0 := by
  obtain ⟨rows, t, e, f⟩ := g
  refine ⟨t.deep.ok, ?_⟩
  obtain ⟨ms, e0⟩ := t.deep.says
  injection e0 with e1' _ _ _ _
  exact e1'.symm
end Go.Den.Mon
end

section
set_option linter.unusedVariables false
set_option maxRecDepth 100000
namespace Go.Den.Mon
open Go Go.Den
variable {h : Hp} {K : Value → Hp → Prop}
theorem Deep.leaf {r : Raw} {m : Mon} (d : Deep h r m) (h0 : r.sn = 0) : m = leaf r := by
  cases d with
  | @mk _ rows ms _ _ hl _ _ hm _ =>
    have : ms = [] := List.length_eq_zero_iff.1 (by omega)
    subst this
    rfl
end Go.Den.Mon
end

section
set_option linter.unusedVariables false
set_option maxRecDepth 100000
namespace Go.Den.Rot
open Go Go.Den Go.Den.Mon
/-! ### Texts and trees say the same -/
def okL (l : List Raw) : Prop := ∀ r ∈ l, r.Ok ∧ rpart r = true
/-! ### The table -/
structure Ent where
  owner : Int
  txt : List UInt8
  tgt : Nat
  strong : Bool
def zE : Ent := ⟨0, [], 0, false⟩
structure Sp where
  x : Ent
  g : Nat
  t : Bool
structure RSp where
  g : Nat
  st : Nat
structure DE where
  h : Nat
  owner : Int
  m : Raw
  l : List Raw
  tgt : Nat
  strong : Bool
def hd (i g : Nat) : Nat := g * 4294967296 + i + 1
def gone (s : Sp) : Sp := if s.g < 4294967295 then ⟨zE, s.g + 1, false⟩ else ⟨zE, s.g, false⟩
def freed (s : Sp) (i : Nat) : List Nat := if s.g < 4294967295 then [i] else []
def rgone (s : RSp) : RSp := if s.g = 4294967295 then ⟨s.g, 2⟩ else ⟨s.g + 1, 0⟩
def rfreed (s : RSp) (i : Nat) : List Nat := if s.g = 4294967295 then [] else [i]
def live : Nat → List Sp → List (Nat × Sp)
  | _, [] => []
  | k, s :: r => if s.t = true then (k, s) :: live (k + 1) r else live (k + 1) r
theorem live_app {k : Nat} {a b : List Sp} : live k (a ++ b) = live k a ++ live (k + a.length) b := by
  induction a generalizing k with
  | nil => rfl
  | cons s a ih =>
    rw [List.cons_append, live, live, ih, List.length_cons, show k + 1 + a.length = k + (a.length + 1) by omega]
    split <;> rfl
theorem live_mem {k j : Nat} {a : List Sp} {s : Sp} : (j, s) ∈ live k a ↔ k ≤ j ∧ a[j - k]? = some s ∧ s.t = true := by
  induction a generalizing k with
  | nil => simp [live]
  | cons x a ih =>
    rw [live]
    have e : (j, s) ∈ (if x.t = true then (k, x) :: live (k + 1) a else live (k + 1) a) ↔ (x.t = true ∧ j = k ∧ s = x) ∨ (j, s) ∈ live (k + 1) a := by
      split
      · rename_i ht; simp [ht]
      · rename_i ht; simp [ht]
    rw [e, ih]
    constructor
    · rintro (⟨h1, rfl, rfl⟩ | ⟨h1, h2, h3⟩)
      · exact ⟨Nat.le_refl _, by simp, h1⟩
      · refine ⟨by omega, ?_, h3⟩
        rw [show j - k = (j - (k + 1)) + 1 by omega]; simpa using h2
    · rintro ⟨h1, h2, h3⟩
      by_cases hj : j = k
      · subst hj; simp at h2; subst h2; exact .inl ⟨h3, rfl, rfl⟩
      · right
        refine ⟨by omega, ?_, h3⟩
        rw [show j - k = (j - (k + 1)) + 1 by omega] at h2; simpa using h2
/-- Who has this name. -/
def named (sp : List Sp) (t : List UInt8) : Option (Nat × Sp) := (live 0 sp).find? fun p => decide (p.2.x.txt = t)
theorem named_some {sp : List Sp} {t : List UInt8} {i : Nat} {s : Sp} (e : named sp t = some (i, s)) : sp[i]? = some s ∧ s.t = true ∧ s.x.txt = t := by
  have h1 := List.find?_some e
  have h2 := List.mem_of_find?_eq_some e
  obtain ⟨-, a, b⟩ := live_mem.1 h2
  exact ⟨by simpa using a, b, of_decide_eq_true h1⟩
theorem named_none {sp : List Sp} {t : List UInt8} (e : named sp t = none) {i : Nat} {s : Sp} (hs : sp[i]? = some s) (ht : s.t = true) : s.x.txt ≠ t := by
  have := List.find?_eq_none.1 e (i, s) (live_mem.2 ⟨Nat.zero_le _, by simpa using hs, ht⟩)
  simpa using this
/-- So a place is taken. -/
def placed (sp : List Sp) (fr : List Nat) (x : Ent) (i g : Nat) (sp' : List Sp) (fr' : List Nat) : Prop :=
  (fr = [] ∧ i = sp.length ∧ g = 1 ∧ sp' = sp ++ [⟨x, 1, true⟩] ∧ fr' = []) ∨ (∃ s, fr = fr' ++ [i] ∧ sp[i]? = some s ∧ g = s.g ∧ sp' = sp.set i ⟨x, s.g, true⟩)
theorem placed.at {sp sp' : List Sp} {fr fr' : List Nat} {x : Ent} {i g : Nat} (p : placed sp fr x i g sp' fr') : sp'[i]? = some ⟨x, g, true⟩ := by
  rcases p with ⟨-, rfl, rfl, rfl, -⟩ | ⟨s, -, h, rfl, rfl⟩
  · simp
  · have := (List.getElem?_eq_some_iff.1 h).1
    simp [this]
theorem placed.ne {sp sp' : List Sp} {fr fr' : List Nat} {x : Ent} {i g : Nat} (p : placed sp fr x i g sp' fr') {j : Nat} (hj : j ≠ i) : sp'[j]? = sp[j]? := by
  rcases p with ⟨-, rfl, rfl, rfl, -⟩ | ⟨s, -, h, rfl, rfl⟩
  · rw [List.getElem?_append]
    split
    · rfl
    · rename_i hl
      rw [List.getElem?_eq_none (by simp; omega), List.getElem?_eq_none (by omega)]
  · rw [List.getElem?_set, if_neg (Ne.symm hj)]
end Go.Den.Rot
end

section
set_option linter.unusedVariables false
set_option maxRecDepth 100000
namespace Go.Den.Rot
open Go Go.Den Go.Den.Mon
variable {sp sp' : List Sp} {fr fr' : List Nat} {gs gs' : List RSp} {DL : List DE} {i j k g : Nat} {s : Sp} {d : DE} {x : Ent}
def spk (s : Sp) : Nat × Bool := (s.g, s.t)
def rpk (s : RSp) : Nat × Bool := (s.g, decide (s.st = 1))
theorem hd_inj {i g i' g' : Nat} (hi : i < 4294967295) (hi' : i' < 4294967295) (e : hd i g = hd i' g') : i = i' ∧ g = g' := by unfold hd at e; omega
theorem hd_lt {i g : Nat} (hi : i < 4294967295) (hg : g < 4294967296) : hd i g < 18446744073709551616 := by unfold hd; omega
structure Alk (hn : Nat) (x : Ent) (d : DE) : Prop where
  h : d.h = hn
  ow : d.owner = x.owner
  tx : txtOf d.l = x.txt
  tg : d.tgt = x.tgt
  sg : d.strong = x.strong
  ok : okL d.l
structure Cor (sp : List Sp) (fr : List Nat) (gs : List RSp) (DL : List DE) : Prop where
  sh : sp.map spk = gs.map rpk
  of : ∀ (i : Nat) (s : Sp), sp[i]? = some s → s.t = true → ∃ d ∈ DL, Alk (hd i s.g) s.x d
  too : ∀ d ∈ DL, ∃ (i : Nat) (s : Sp), sp[i]? = some s ∧ s.t = true ∧ Alk (hd i s.g) s.x d
  un : DL.Pairwise fun a b => a.h ≠ b.h
  key : ∀ (i j : Nat) (s s' : Sp), sp[i]? = some s → s.t = true → sp[j]? = some s' → s'.t = true → s.x.txt = s'.x.txt → i = j
  fz : ∀ i ∈ fr, ∀ s : Sp, sp[i]? = some s → s.t = false
  fn : fr.Nodup
  g : ∀ s ∈ sp, s.g < 4294967296
  len : sp.length ≤ 65536
theorem Cor.nil : Cor [] [] [] [] := ⟨rfl, by simp, by simp, .nil, by simp, by simp, by simp, by simp, by simp⟩
theorem Cor.lt (C : Cor sp fr gs DL) (hs : sp[i]? = some s) : i < 65536 ∧ s.g < 4294967296 ∧ hd i s.g < 18446744073709551616 := by
  have h1 := (List.getElem?_eq_some_iff.1 hs).1
  have h2 := C.len
  have h3 := C.g s (List.mem_of_getElem? hs)
  exact ⟨by omega, h3, hd_lt (by omega) h3⟩
theorem Cor.gl (C : Cor sp fr gs DL) : sp.length = gs.length := by have := congrArg List.length C.sh; simpa using this
theorem Cor.ge (C : Cor sp fr gs DL) (hs : sp[i]? = some s) : ∃ q, gs[i]? = some q ∧ q.g = s.g ∧ (s.t = true ↔ q.st = 1) := by
  have e : (sp.map spk)[i]? = (gs.map rpk)[i]? := by rw [C.sh]
  rw [List.getElem?_map, List.getElem?_map, hs] at e
  cases hq : gs[i]? with
  | none => rw [hq] at e; cases e
  | some q =>
    rw [hq] at e
    have e : spk s = rpk q := by simpa using e
    refine ⟨q, rfl, (congrArg Prod.fst e).symm, ?_⟩
    have : s.t = decide (q.st = 1) := congrArg Prod.snd e
    rw [this]; simp
theorem gone_t {s : Sp} : (gone s).t = false := by unfold gone; split <;> rfl
theorem gone_g {s : Sp} (h : s.g < 4294967296) : (gone s).g < 4294967296 := by
  unfold gone
  split
  · show s.g + 1 < _; omega
  · exact h
theorem gone_rgone {s : Sp} {q : RSp} (e : q.g = s.g) (hg : s.g < 4294967296) : spk (gone s) = rpk (rgone q) ∧ freed s i = rfreed q i := by
  unfold gone rgone freed rfreed
  rw [e]
  by_cases hl : s.g < 4294967295
  · rw [if_pos hl, if_neg (by omega), if_pos hl, if_neg (by omega)]; exact ⟨by simp [spk, rpk], rfl⟩
  · rw [if_neg hl, if_pos (by omega), if_neg hl, if_pos (by omega)]; exact ⟨by simp [spk, rpk], rfl⟩
/-- The one entry of a handle. -/
theorem Cor.one (C : Cor sp fr gs DL) {d' : DE} (h1 : d ∈ DL) (h2 : d' ∈ DL) (e : d.h = d'.h) : d = d' := by
  obtain ⟨a, ha⟩ := List.mem_iff_getElem?.1 h1
  obtain ⟨b, hb⟩ := List.mem_iff_getElem?.1 h2
  have pw := List.pairwise_iff_getElem.1 C.un
  obtain ⟨la, ea⟩ := List.getElem?_eq_some_iff.1 ha
  obtain ⟨lb, eb⟩ := List.getElem?_eq_some_iff.1 hb
  rcases Nat.lt_trichotomy a b with q | q | q
  · have := pw a b la lb q; rw [ea, eb] at this; exact absurd e this
  · subst q; rw [ha] at hb; exact Option.some.inj hb
  · have := pw b a lb la q; rw [ea, eb] at this; exact absurd e.symm this
theorem Cor.idx (C : Cor sp fr gs DL) (ha : DL[j]? = some d) {d' : DE} (hb : DL[k]? = some d') (e : d.h = d'.h) : j = k := by
  have pw := List.pairwise_iff_getElem.1 C.un
  obtain ⟨la, ea⟩ := List.getElem?_eq_some_iff.1 ha
  obtain ⟨lb, eb⟩ := List.getElem?_eq_some_iff.1 hb
  rcases Nat.lt_trichotomy j k with q | q | q
  · have := pw j k la lb q; rw [ea, eb] at this; exact absurd e this
  · exact q
  · have := pw k j lb la q; rw [ea, eb] at this; exact absurd e.symm this
/-- One goes. -/
theorem Cor.drop (C : Cor sp fr gs DL) (hs : sp[i]? = some s) (ht : s.t = true) (hd' : DL[k]? = some d) (e : d.h = hd i s.g) {q : RSp} (hq : gs[i]? = some q) :
    Cor (sp.set i (gone s)) (fr ++ rfreed q i) (gs.set i (rgone q)) (DL.eraseIdx k) ∧ freed s i = rfreed q i := by
  obtain ⟨q', hq', eg, -⟩ := C.ge hs
  rw [hq] at hq'; cases hq'
  obtain ⟨l1, l2, l3⟩ := C.lt hs
  have hil := (List.getElem?_eq_some_iff.1 hs).1
  obtain ⟨gr, ef⟩ := gone_rgone (i := i) eg l2
  refine ⟨⟨by rw [List.map_set, List.map_set, C.sh, gr], fun j s' hj tj => ?_, fun d' hd2 => ?_, C.un.sublist (List.eraseIdx_sublist _ _), fun a b u v ha ta hb tb et => ?_, fun j hj s' hs' => ?_, ?_, fun u hu => ?_, by rw [List.length_set]; exact C.len⟩, ef⟩
  · by_cases ej : j = i
    · subst ej
      rw [List.getElem?_set, if_pos rfl, if_pos hil] at hj
      cases hj; rw [gone_t] at tj; cases tj
    · rw [List.getElem?_set, if_neg (Ne.symm ej)] at hj
      obtain ⟨d', m', al⟩ := C.of j s' hj tj
      refine ⟨d', ?_, al⟩
      obtain ⟨m, hm⟩ := List.mem_iff_getElem?.1 m'
      refine List.mem_eraseIdx_iff_getElem?.2 ⟨m, fun em => ?_, hm⟩
      subst em
      rw [hm] at hd'; cases hd'
      have := (hd_inj (by have := (C.lt hj).1; omega) (by omega) (al.h.symm.trans e)).1
      exact ej this
  · obtain ⟨m, nm, hm⟩ := List.mem_eraseIdx_iff_getElem?.1 hd2
    obtain ⟨j, s', hj, tj, al⟩ := C.too d' (List.mem_of_getElem? hm)
    refine ⟨j, s', ?_, tj, al⟩
    rw [List.getElem?_set, if_neg]
    · exact hj
    · intro ei
      subst ei
      rw [hs] at hj; cases hj
      exact nm (C.idx hm hd' (al.h.trans e.symm))
  · have fa : ∀ {a : Nat} {u : Sp}, (sp.set i (gone s))[a]? = some u → u.t = true → sp[a]? = some u := fun {a u} ha ta => by
      rw [List.getElem?_set] at ha
      split at ha
      · first
          | (cases ha; rw [gone_t] at ta; cases ta)
          | (split at ha
             · cases ha; rw [gone_t] at ta; cases ta
             · cases ha)
      · exact ha
    exact C.key a b u v (fa ha ta) ta (fa hb tb) tb et
  · by_cases ej : j = i
    · subst ej
      rw [List.getElem?_set, if_pos rfl, if_pos hil] at hs'
      cases hs'; exact gone_t
    · rw [List.getElem?_set, if_neg (Ne.symm ej)] at hs'
      refine C.fz j ?_ s' hs'
      rcases List.mem_append.1 hj with z | z
      · exact z
      · unfold rfreed at z; split at z <;> simp at z; exact absurd z ej
  · rw [List.nodup_append]
    refine ⟨C.fn, by unfold rfreed; split <;> simp, fun a ha b hb => ?_⟩
    unfold rfreed at hb; split at hb <;> simp at hb
    subst hb
    intro eab
    subst eab
    have := C.fz _ ha s hs
    rw [ht] at this; cases this
  · rcases List.mem_or_eq_of_mem_set hu with z | rfl
    · exact C.g u z
    · exact gone_g l2
/-- One more. -/
theorem Cor.add (C : Cor sp fr gs DL) (p : placed sp fr x i g sp' fr') (sh : sp'.map spk = gs'.map rpk) (hl : sp'.length ≤ 65536) (al : Alk (hd i g) x d) (hno : named sp x.txt = none) : Cor sp' fr' gs' (DL ++ [d]) := by
  have hat := p.at
  have hil := (List.getElem?_eq_some_iff.1 hat).1
  have old : ∀ {s : Sp}, sp[i]? = some s → s.t = true → False := fun {s} hs ht => by
    rcases p with ⟨h1, h2, h3, h4, h5⟩ | ⟨s', h1, h2, h3, h4⟩
    · have := (List.getElem?_eq_some_iff.1 hs).1; omega
    · have := C.fz i (by rw [h1]; simp) s hs
      rw [this] at ht; cases ht
  have gi : g < 4294967296 := by
    rcases p with ⟨h1, h2, h3, h4, h5⟩ | ⟨s', h1, h2, h3, h4⟩
    · omega
    · rw [h3]; exact (C.lt h2).2.1
  refine ⟨sh, fun j u hj tj => ?_, fun d' hd' => ?_, ?_, fun a b u v ha ta hb tb et => ?_, fun j hj u hu => ?_, ?_, fun u hu => ?_, hl⟩
  · by_cases e : j = i
    · subst e
      rw [hat] at hj; cases hj
      exact ⟨d, by simp, al⟩
    · rw [p.ne e] at hj
      obtain ⟨d', m, a'⟩ := C.of j u hj tj
      exact ⟨d', by simp [m], a'⟩
  · rcases List.mem_append.1 hd' with z | z
    · obtain ⟨j, u, h1, h2, h3⟩ := C.too d' z
      have e : j ≠ i := fun e => by subst e; exact old h1 h2
      exact ⟨j, u, by rw [p.ne e]; exact h1, h2, h3⟩
    · simp at z; subst z
      exact ⟨i, _, hat, rfl, al⟩
  · rw [List.pairwise_append]
    refine ⟨C.un, by simp, fun a ha b hb e => ?_⟩
    simp at hb; subst hb
    obtain ⟨j, u, h1, h2, h3⟩ := C.too a ha
    have := (hd_inj (by have := (C.lt h1).1; omega) (by omega) (h3.h.symm.trans (e.trans al.h))).1
    subst this
    exact old h1 h2
  · have f : ∀ {j : Nat} {u : Sp}, sp'[j]? = some u → u.t = true → j ≠ i → u.x.txt ≠ x.txt := fun {j u} hj tj e => by
      rw [p.ne e] at hj
      exact named_none hno hj tj
    by_cases h1 : a = i <;> by_cases h2 : b = i
    · rw [h1, h2]
    · subst h1; rw [hat] at ha; cases ha
      exact absurd et.symm (f hb tb h2)
    · subst h2; rw [hat] at hb; cases hb
      exact absurd et (f ha ta h1)
    · rw [p.ne h1] at ha; rw [p.ne h2] at hb
      exact C.key a b u v ha ta hb tb et
  · rcases p with ⟨h1, h2, h3, h4, h5⟩ | ⟨s', h1, h2, h3, h4⟩
    · rw [h5] at hj; simp at hj
    · have nd := C.fn
      rw [h1, List.nodup_append] at nd
      have e : j ≠ i := nd.2.2 j hj i (by simp)
      rw [h4, List.getElem?_set, if_neg (Ne.symm e)] at hu
      exact C.fz j (by rw [h1]; simp [hj]) u hu
  · rcases p with ⟨h1, h2, h3, h4, h5⟩ | ⟨s', h1, h2, h3, h4⟩
    · rw [h5]; simp
    · have nd := C.fn
      rw [h1, List.nodup_append] at nd
      exact nd.1
  · rcases p with ⟨h1, h2, h3, h4, h5⟩ | ⟨s', h1, h2, h3, h4⟩
    · rw [h4] at hu
      rcases List.mem_append.1 hu with z | z
      · exact C.g u z
      · simp at z; subst z; show 1 < _; omega
    · rw [h4] at hu
      rcases List.mem_or_eq_of_mem_set hu with z | rfl
      · exact C.g u z
      · exact (C.lt h2).2.1
end Go.Den.Rot
end

section
set_option linter.unusedVariables false
set_option maxRecDepth 100000
namespace Go.Den.Rot
open Go Go.Den Go.Den.Mon
variable {sp sp' : List Sp} {fr fr' : List Nat} {gs gs' : List RSp} {DL : List DE} {i j k g : Nat} {s : Sp} {d : DE} {x : Ent}
theorem nodup_le : ∀ {n : Nat} {l : List Nat}, l.Nodup → (∀ x ∈ l, x < n) → l.length ≤ n
  | 0, l, _, h => by
    cases l with
    | nil => simp
    | cons a l => have := h a (by simp); omega
  | n + 1, l, nd, h => by
    have := nodup_le (n := n) (l := l.erase n) (nd.erase n) fun x hx => by
      have q := (nd.mem_erase_iff).1 hx
      have := h x q.2
      omega
    rw [List.length_erase] at this
    split at this <;> omega
/-- The free places are free. -/
structure Fre (sp : List Sp) (fr : List Nat) : Prop where
  fz : ∀ i ∈ fr, ∃ s : Sp, sp[i]? = some s ∧ s.t = false
  fn : fr.Nodup
theorem Fre.nil : Fre [] [] := ⟨by simp, by simp⟩
theorem Fre.lt (f : Fre sp fr) (hs : sp[i]? = some s) (ht : s.t = true) : fr.length < sp.length := by
  have ni : i ∉ fr := fun m => by
    obtain ⟨s', h1, h2⟩ := f.fz i m
    rw [hs] at h1; cases h1; rw [ht] at h2; cases h2
  have : (i :: fr).length ≤ sp.length := nodup_le (List.nodup_cons.2 ⟨ni, f.fn⟩) fun x hx => by
    rcases List.mem_cons.1 hx with rfl | hx
    · exact (List.getElem?_eq_some_iff.1 hs).1
    · obtain ⟨s', h1, -⟩ := f.fz x hx
      exact (List.getElem?_eq_some_iff.1 h1).1
  rw [List.length_cons] at this
  omega
theorem Fre.drop (f : Fre sp fr) (hs : sp[i]? = some s) (ht : s.t = true) : Fre (sp.set i (gone s)) (fr ++ freed s i) := by
  have hil := (List.getElem?_eq_some_iff.1 hs).1
  have ni : i ∉ fr := fun m => by
    obtain ⟨s', h1, h2⟩ := f.fz i m
    rw [hs] at h1; cases h1; rw [ht] at h2; cases h2
  refine ⟨fun j hj => ?_, ?_⟩
  · by_cases e : j = i
    · subst e
      exact ⟨gone s, by rw [List.getElem?_set, if_pos rfl, if_pos hil], gone_t⟩
    · rcases List.mem_append.1 hj with z | z
      · obtain ⟨s', h1, h2⟩ := f.fz j z
        exact ⟨s', by rw [List.getElem?_set, if_neg (Ne.symm e)]; exact h1, h2⟩
      · unfold freed at z; split at z <;> simp at z; exact absurd z e
  · rw [List.nodup_append]
    refine ⟨f.fn, by unfold freed; split <;> simp, fun a ha b hb => ?_⟩
    unfold freed at hb; split at hb <;> simp at hb
    subst hb
    exact fun e => ni (e ▸ ha)
theorem Fre.add (f : Fre sp fr) (p : placed sp fr x i g sp' fr') : Fre sp' fr' := by
  refine ⟨fun j hj => ?_, ?_⟩
  · rcases p with ⟨h1, h2, h3, h4, h5⟩ | ⟨s', h1, h2, h3, h4⟩
    · rw [h5] at hj; simp at hj
    · have nd := f.fn
      rw [h1, List.nodup_append] at nd
      have e : j ≠ i := nd.2.2 j hj i (by simp)
      obtain ⟨u, u1, u2⟩ := f.fz j (by rw [h1]; simp [hj])
      exact ⟨u, by rw [h4, List.getElem?_set, if_neg (Ne.symm e)]; exact u1, u2⟩
  · rcases p with ⟨h1, h2, h3, h4, h5⟩ | ⟨s', h1, h2, h3, h4⟩
    · rw [h5]; simp
    · have nd := f.fn
      rw [h1, List.nodup_append] at nd
      exact nd.1
theorem Cor.fre (C : Cor sp fr gs DL) (hf : ∀ i ∈ fr, i < sp.length) : Fre sp fr := ⟨fun i hi => ⟨sp[i]'(hf i hi), List.getElem?_eq_getElem (hf i hi), C.fz i hi _ (List.getElem?_eq_getElem (hf i hi))⟩, C.fn⟩
/-! ### Many go -/
/-! ### The document's handles in order -/
theorem placed.len (p : placed sp fr x i g sp' fr') : sp'.length = sp.length ∨ (fr = [] ∧ sp'.length = sp.length + 1) := by
  rcases p with ⟨h1, h2, h3, h4, h5⟩ | ⟨s', h1, h2, h3, h4⟩
  · exact .inr ⟨h1, by rw [h4]; simp⟩
  · exact .inl (by rw [h4]; simp)
theorem placed.fun {i' g' : Nat} {sp'' : List Sp} {fr'' : List Nat} (p : placed sp fr x i g sp' fr') (p' : placed sp fr x i' g' sp'' fr'') : i' = i ∧ g' = g ∧ sp'' = sp' ∧ fr'' = fr' := by
  rcases p with ⟨h1, h2, h3, h4, h5⟩ | ⟨s, h1, h2, h3, h4⟩ <;> rcases p' with ⟨r1, r2, r3, r4, r5⟩ | ⟨s', r1, r2, r3, r4⟩
  · subst h2 h3 h4 h5 r2 r3 r4 r5; exact ⟨rfl, rfl, rfl, rfl⟩
  · rw [h1] at r1; simp at r1
  · rw [h1] at r1; simp at r1
  · rw [h1] at r1
    obtain ⟨e1, e2⟩ := List.append_inj' r1 rfl
    simp at e2
    subst e1 e2
    rw [h2] at r2; cases r2
    exact ⟨rfl, by rw [h3, r3], by rw [h4, r4], rfl⟩
end Go.Den.Rot
end

section
set_option linter.unusedVariables false
set_option maxRecDepth 100000
namespace Go.Den.Mon
open Go Go.Den

noncomputable section

def arena_New_rot_entry.k0 (h : Hp) (K : Value → Hp → Prop) (n0 : Int) (n1 : Int) : Prop :=
 (∀ b0 : Nat, ((h b0) = none → K (.tuple #[.pointer (some ⟨b0, 0, none⟩), .int .i64 0]) (h.put b0 (.cells #[.int .i64 n0, .int .u32 n1, .slice none 0 0, .slice none 0 0, .int .i64 0] T.arena_Arena_rot_entry (0, 0)))))
def arena_New_rot_entry.k1 (n1 : Int) (K : Value → Hp → Prop) (h : Hp) (n0 : Int) : Prop :=
 bcase ((n1 == 0))
 (K (.tuple #[.pointer none, .int .i64 1]) h)
 ((arena_New_rot_entry.k0 h K n0 n1))
def arena_New_rot_entry.k2 (n0 : Int) (K : Value → Hp → Prop) (h : Hp) (n1 : Int) : Prop :=
 bcase (decide ((65536 : Int) < n0))
 (K (.tuple #[.pointer none, .int .i64 1]) h)
 ((arena_New_rot_entry.k1 n1 K h n0))
def arena_New_rot_entry (n0 : Int) (n1 : Int) (K : Value → Hp → Prop) (h : Hp) : Prop :=
 bcase (decide (n0 < 1))
 (K (.tuple #[.pointer none, .int .i64 1]) h)
 ((arena_New_rot_entry.k2 n0 K h n1))
theorem arena_New_rot_entry.hc {n0 : Int} {n1 : Int} {K : Value → Hp → Prop} {h : Hp} (hh : arena_New_rot_entry n0 n1 K h) : HC P arena_New_rot_entry.n #[.int .i64 n0, .int .u32 n1] h K :=
  HC_of_den (fn := Go.Proofs.Tryz.f20) (args := [.int .i64 n0, .int .u32 n1]) Go.Proofs.Tryz.func20 rfl (Nat.le_of_ble_eq_true (by kernel_rfl)) (den_cast hh (by kernel_rfl))

def arena_handle (n0 : Int) (n1 : Int) (K : Value → Hp → Prop) (h : Hp) : Prop :=
 ((0 : Int) ≤ 32) ∧ K (.int .u64 (bits .or .u64 (IntKind.wrap .u64 ((IntKind.wrap .u64 n1) * (2 ^ Min.min ((32 : Int).toNat) 64))) (IntKind.wrap .u64 (IntKind.wrap .i64 (n0 + 1))))) h
theorem arena_handle.hc {n0 : Int} {n1 : Int} {K : Value → Hp → Prop} {h : Hp} (hh : arena_handle n0 n1 K h) : HC P arena_handle.n #[.int .i64 n0, .int .u32 n1] h K :=
  HC_of_den (fn := Go.Proofs.Tryz.f47) (args := [.int .i64 n0, .int .u32 n1]) Go.Proofs.Tryz.func47 rfl (Nat.le_of_ble_eq_true (by kernel_rfl)) (den_cast hh (by kernel_rfl))

def arena_Split (n0 : Int) (K : Value → Hp → Prop) (h : Hp) : Prop :=
 ((0 : Int) ≤ 32) ∧ K (.tuple #[.int .i64 (IntKind.wrap .i64 ((IntKind.wrap .i64 (IntKind.wrap .u32 n0)) - 1)), .int .u32 (IntKind.wrap .u32 (Int.fdiv n0 (2 ^ Min.min ((32 : Int).toNat) 64)))]) h
def arena_Arena_rot_entry_find.k0 (K : Value → Hp → Prop) (p3 : Addr) (n1 : Int) (h0 : Hp) : Prop :=
 K (.tuple #[.pointer (some (p3.add (n1.toNat * 6))), .int .i64 n1]) h0
def arena_Arena_rot_entry_find.k1 (h0 : Hp) (p3 : Addr) (n1 : Int) (n2 : Int) (K : Value → Hp → Prop) : Prop :=
 (∃ n5 : Int, ((h0.cell? ((p3.add (n1.toNat * 6)).add 4)) = (some (.int .u32 n5))) ∧ bcase ((n5 != n2))
 (K (.tuple #[.pointer none, .int .i64 0]) h0)
 ((arena_Arena_rot_entry_find.k0 K p3 n1 h0)))
def arena_Arena_rot_entry_find.k2 (p0 : Option Addr) (h0 : Hp) (n1 : Int) (K : Value → Hp → Prop) (n2 : Int) : Prop :=
 someD p0 (fun p2 => (∃ a1 : Option Addr, (∃ n4 : Nat, (∃ c1 : Nat, ((h0.cell? (p2.add 2)) = (some (.slice a1 n4 c1))) ∧ ((0 : Int) ≤ n1) ∧ (n1 < (n4 : Int)) ∧ someD a1 (fun p3 => (∃ b0 : Bool, ((h0.cell? ((p3.add (n1.toNat * 6)).add 5)) = (some (.bool b0))) ∧ bcase ((!b0))
 (K (.tuple #[.pointer none, .int .i64 0]) h0)
 ((arena_Arena_rot_entry_find.k1 h0 p3 n1 n2 K))))))))
def arena_Arena_rot_entry_find.k3 (p0 : Option Addr) (h0 : Hp) (n1 : Int) (K : Value → Hp → Prop) (n2 : Int) : Prop :=
 someD p0 (fun p1 => (∃ a0 : Option Addr, (∃ n3 : Nat, (∃ c0 : Nat, ((h0.cell? (p1.add 2)) = (some (.slice a0 n3 c0))) ∧ bcase (decide ((n3 : Int) ≤ n1))
 (K (.tuple #[.pointer none, .int .i64 0]) h0)
 ((arena_Arena_rot_entry_find.k2 p0 h0 n1 K n2))))))
def arena_Arena_rot_entry_find.k4 (n1 : Int) (K : Value → Hp → Prop) (h0 : Hp) (p0 : Option Addr) (n2 : Int) : Prop :=
 bcase (decide (n1 < 0))
 (K (.tuple #[.pointer none, .int .i64 0]) h0)
 ((arena_Arena_rot_entry_find.k3 p0 h0 n1 K n2))
def arena_Arena_rot_entry_find.k5 (p0 : Option Addr) (K : Value → Hp → Prop) (h0 : Hp) (n1 : Int) (n2 : Int) : Prop :=
 bcase (p0.isNone)
 (K (.tuple #[.pointer none, .int .i64 0]) h0)
 ((arena_Arena_rot_entry_find.k4 n1 K h0 p0 n2))
def arena_Arena_rot_entry_find (p0 : Option Addr) (n0 : Int) (K : Value → Hp → Prop) (h : Hp) : Prop :=
 HC P arena_Split.n #[.int .u64 n0] h (fun v0 h0 => (∃ n1 : Int, (∃ n2 : Int, (v0 = (.tuple #[.int .i64 n1, .int .u32 n2])) ∧ (arena_Arena_rot_entry_find.k5 p0 K h0 n1 n2))))
def arena_Arena_rot_entry_Put.k0 (K : Value → Hp → Prop) (h : Hp) (b1 : Nat) (n0 : Int) (s0 : ByteArray) (n1 : Int) (b0 : Bool) : Prop :=
 K (.tuple #[.int .u64 0, .int .i64 3]) (h.put b1 (.cells #[.int .i64 n0, .string s0, .int .u64 n1, .bool b0] T.rot_entry (0, 0)))
def arena_Arena_rot_entry_Put.k1 (p0 : Option Addr) (h : Hp) (b1 : Nat) (n0 : Int) (s0 : ByteArray) (n1 : Int) (b0 : Bool) (n3 : Nat) (K : Value → Hp → Prop) : Prop :=
 someD p0 (fun p3 => (∃ a2 : Option Addr, (∃ n4 : Nat, (∃ c2 : Nat, (((h.put b1 (.cells #[.int .i64 n0, .string s0, .int .u64 n1, .bool b0] T.rot_entry (0, 0))).cell? (p3.add 3)) = (some (.slice a2 n4 c2))) ∧ ((0 : Int) ≤ (IntKind.wrap .i64 ((n3 : Int) - 1))) ∧ ((IntKind.wrap .i64 ((n3 : Int) - 1)) < (n4 : Int)) ∧ someD a2 (fun p4 => (∃ n5 : Int, (((h.put b1 (.cells #[.int .i64 n0, .string s0, .int .u64 n1, .bool b0] T.rot_entry (0, 0))).cell? (p4.add ((IntKind.wrap .i64 ((n3 : Int) - 1)).toNat * 1))) = (some (.int .i64 n5))) ∧ someD p0 (fun p5 => (∃ a3 : Option Addr, (∃ n6 : Nat, (∃ c3 : Nat, (((h.put b1 (.cells #[.int .i64 n0, .string s0, .int .u64 n1, .bool b0] T.rot_entry (0, 0))).cell? (p5.add 3)) = (some (.slice a3 n6 c3))) ∧ ((0 : Int) ≤ (IntKind.wrap .i64 ((n3 : Int) - 1))) ∧ ((IntKind.wrap .i64 ((n3 : Int) - 1)) ≤ (c3 : Int)) ∧ someD p0 (fun p6 => (∃ u0 : Value, ((h.put b1 (.cells #[.int .i64 n0, .string s0, .int .u64 n1, .bool b0] T.rot_entry (0, 0))).cell? (p6.add 3)) = (some u0)) ∧ (((h.put b1 (.cells #[.int .i64 n0, .string s0, .int .u64 n1, .bool b0] T.rot_entry (0, 0))).frozen? (p6.add 3)) = Bool.false) ∧ someD p0 (fun p7 => (∃ a4 : Option Addr, (∃ n7 : Nat, (∃ c4 : Nat, ((((h.put b1 (.cells #[.int .i64 n0, .string s0, .int .u64 n1, .bool b0] T.rot_entry (0, 0))).setCell (p6.add 3) (.slice (Den.offA a3 c3 0 1) ((IntKind.wrap .i64 ((n3 : Int) - 1)).toNat - 0) (c3 - 0))).cell? (p7.add 2)) = (some (.slice a4 n7 c4))) ∧ ((0 : Int) ≤ n5) ∧ (n5 < (n7 : Int)) ∧ someD a4 (fun p8 => (∃ n8 : Int, (∃ s1 : ByteArray, (∃ n9 : Int, (∃ b2 : Bool, (CellsAt ((h.put b1 (.cells #[.int .i64 n0, .string s0, .int .u64 n1, .bool b0] T.rot_entry (0, 0))).setCell (p6.add 3) (.slice (Den.offA a3 c3 0 1) ((IntKind.wrap .i64 ((n3 : Int) - 1)).toNat - 0) (c3 - 0))) ⟨b1, 0, none⟩ 4 #[.int .i64 n8, .string s1, .int .u64 n9, .bool b2]) ∧ (((#[.int .i64 n8, .string s1, .int .u64 n9, .bool b2] : Array Value).size) = 4) ∧ (∀ v0 : Value, (v0 ∈ ([.int .i64 n8, .string s1, .int .u64 n9, .bool b2] : List Value) → (Den.cellish v0) = Bool.true)) ∧ (Free ((h.put b1 (.cells #[.int .i64 n0, .string s0, .int .u64 n1, .bool b0] T.rot_entry (0, 0))).setCell (p6.add 3) (.slice (Den.offA a3 c3 0 1) ((IntKind.wrap .i64 ((n3 : Int) - 1)).toNat - 0) (c3 - 0))) ((p8.add (n5.toNat * 6)).add 0) 4) ∧ (∃ u1 : Value, ((((h.put b1 (.cells #[.int .i64 n0, .string s0, .int .u64 n1, .bool b0] T.rot_entry (0, 0))).setCell (p6.add 3) (.slice (Den.offA a3 c3 0 1) ((IntKind.wrap .i64 ((n3 : Int) - 1)).toNat - 0) (c3 - 0))).setCells ((p8.add (n5.toNat * 6)).add 0) #[.int .i64 n8, .string s1, .int .u64 n9, .bool b2]).cell? ((p8.add (n5.toNat * 6)).add 5)) = (some u1)) ∧ (((((h.put b1 (.cells #[.int .i64 n0, .string s0, .int .u64 n1, .bool b0] T.rot_entry (0, 0))).setCell (p6.add 3) (.slice (Den.offA a3 c3 0 1) ((IntKind.wrap .i64 ((n3 : Int) - 1)).toNat - 0) (c3 - 0))).setCells ((p8.add (n5.toNat * 6)).add 0) #[.int .i64 n8, .string s1, .int .u64 n9, .bool b2]).frozen? ((p8.add (n5.toNat * 6)).add 5)) = Bool.false) ∧ someD p0 (fun p9 => (∃ n10 : Int, ((((((h.put b1 (.cells #[.int .i64 n0, .string s0, .int .u64 n1, .bool b0] T.rot_entry (0, 0))).setCell (p6.add 3) (.slice (Den.offA a3 c3 0 1) ((IntKind.wrap .i64 ((n3 : Int) - 1)).toNat - 0) (c3 - 0))).setCells ((p8.add (n5.toNat * 6)).add 0) #[.int .i64 n8, .string s1, .int .u64 n9, .bool b2]).setCell ((p8.add (n5.toNat * 6)).add 5) (.bool Bool.true)).cell? (p9.add 4)) = (some (.int .i64 n10))) ∧ someD p0 (fun p10 => (∃ u2 : Value, (((((h.put b1 (.cells #[.int .i64 n0, .string s0, .int .u64 n1, .bool b0] T.rot_entry (0, 0))).setCell (p6.add 3) (.slice (Den.offA a3 c3 0 1) ((IntKind.wrap .i64 ((n3 : Int) - 1)).toNat - 0) (c3 - 0))).setCells ((p8.add (n5.toNat * 6)).add 0) #[.int .i64 n8, .string s1, .int .u64 n9, .bool b2]).setCell ((p8.add (n5.toNat * 6)).add 5) (.bool Bool.true)).cell? (p10.add 4)) = (some u2)) ∧ ((((((h.put b1 (.cells #[.int .i64 n0, .string s0, .int .u64 n1, .bool b0] T.rot_entry (0, 0))).setCell (p6.add 3) (.slice (Den.offA a3 c3 0 1) ((IntKind.wrap .i64 ((n3 : Int) - 1)).toNat - 0) (c3 - 0))).setCells ((p8.add (n5.toNat * 6)).add 0) #[.int .i64 n8, .string s1, .int .u64 n9, .bool b2]).setCell ((p8.add (n5.toNat * 6)).add 5) (.bool Bool.true)).frozen? (p10.add 4)) = Bool.false) ∧ (∃ n11 : Int, (((((((h.put b1 (.cells #[.int .i64 n0, .string s0, .int .u64 n1, .bool b0] T.rot_entry (0, 0))).setCell (p6.add 3) (.slice (Den.offA a3 c3 0 1) ((IntKind.wrap .i64 ((n3 : Int) - 1)).toNat - 0) (c3 - 0))).setCells ((p8.add (n5.toNat * 6)).add 0) #[.int .i64 n8, .string s1, .int .u64 n9, .bool b2]).setCell ((p8.add (n5.toNat * 6)).add 5) (.bool Bool.true)).setCell (p10.add 4) (.int .i64 (IntKind.wrap .i64 (n10 + 1)))).cell? ((p8.add (n5.toNat * 6)).add 4)) = (some (.int .u32 n11))) ∧ HC P arena_handle.n #[.int .i64 n5, .int .u32 n11] (((((h.put b1 (.cells #[.int .i64 n0, .string s0, .int .u64 n1, .bool b0] T.rot_entry (0, 0))).setCell (p6.add 3) (.slice (Den.offA a3 c3 0 1) ((IntKind.wrap .i64 ((n3 : Int) - 1)).toNat - 0) (c3 - 0))).setCells ((p8.add (n5.toNat * 6)).add 0) #[.int .i64 n8, .string s1, .int .u64 n9, .bool b2]).setCell ((p8.add (n5.toNat * 6)).add 5) (.bool Bool.true)).setCell (p10.add 4) (.int .i64 (IntKind.wrap .i64 (n10 + 1)))) (fun v1 h0 => (∃ n12 : Int, (v1 = (.int .u64 n12)) ∧ K (.tuple #[.int .u64 n12, .int .i64 0]) h0))))))))))))))))))))))))))
def arena_Arena_rot_entry_Put.k2 (p0 : Option Addr) (h1 : Hp) (a6 : Option Addr) (n16 : Nat) (c6 : Nat) (n2 : Nat) (b1 : Nat) (K : Value → Hp → Prop) : Prop :=
 someD p0 (fun p14 => (∃ u3 : Value, (h1.cell? (p14.add 2)) = (some u3)) ∧ ((h1.frozen? (p14.add 2)) = Bool.false) ∧ someD p0 (fun p15 => (∃ a7 : Option Addr, (∃ n17 : Nat, (∃ c7 : Nat, (((h1.setCell (p14.add 2) (.slice a6 n16 c6)).cell? (p15.add 2)) = (some (.slice a7 n17 c7))) ∧ ((0 : Int) ≤ (n2 : Int)) ∧ ((n2 : Int) < (n17 : Int)) ∧ someD a7 (fun p16 => (∃ n18 : Int, (∃ s2 : ByteArray, (∃ n19 : Int, (∃ b4 : Bool, (CellsAt (h1.setCell (p14.add 2) (.slice a6 n16 c6)) ⟨b1, 0, none⟩ 4 #[.int .i64 n18, .string s2, .int .u64 n19, .bool b4]) ∧ (((#[.int .i64 n18, .string s2, .int .u64 n19, .bool b4] : Array Value).size) = 4) ∧ (∀ v3 : Value, (v3 ∈ ([.int .i64 n18, .string s2, .int .u64 n19, .bool b4] : List Value) → (Den.cellish v3) = Bool.true)) ∧ (Free (h1.setCell (p14.add 2) (.slice a6 n16 c6)) ((p16.add ((n2 : Int).toNat * 6)).add 0) 4) ∧ (∃ u4 : Value, (((h1.setCell (p14.add 2) (.slice a6 n16 c6)).setCells ((p16.add ((n2 : Int).toNat * 6)).add 0) #[.int .i64 n18, .string s2, .int .u64 n19, .bool b4]).cell? ((p16.add ((n2 : Int).toNat * 6)).add 5)) = (some u4)) ∧ ((((h1.setCell (p14.add 2) (.slice a6 n16 c6)).setCells ((p16.add ((n2 : Int).toNat * 6)).add 0) #[.int .i64 n18, .string s2, .int .u64 n19, .bool b4]).frozen? ((p16.add ((n2 : Int).toNat * 6)).add 5)) = Bool.false) ∧ someD p0 (fun p17 => (∃ n20 : Int, (((((h1.setCell (p14.add 2) (.slice a6 n16 c6)).setCells ((p16.add ((n2 : Int).toNat * 6)).add 0) #[.int .i64 n18, .string s2, .int .u64 n19, .bool b4]).setCell ((p16.add ((n2 : Int).toNat * 6)).add 5) (.bool Bool.true)).cell? (p17.add 4)) = (some (.int .i64 n20))) ∧ someD p0 (fun p18 => (∃ u5 : Value, ((((h1.setCell (p14.add 2) (.slice a6 n16 c6)).setCells ((p16.add ((n2 : Int).toNat * 6)).add 0) #[.int .i64 n18, .string s2, .int .u64 n19, .bool b4]).setCell ((p16.add ((n2 : Int).toNat * 6)).add 5) (.bool Bool.true)).cell? (p18.add 4)) = (some u5)) ∧ (((((h1.setCell (p14.add 2) (.slice a6 n16 c6)).setCells ((p16.add ((n2 : Int).toNat * 6)).add 0) #[.int .i64 n18, .string s2, .int .u64 n19, .bool b4]).setCell ((p16.add ((n2 : Int).toNat * 6)).add 5) (.bool Bool.true)).frozen? (p18.add 4)) = Bool.false) ∧ (∃ n21 : Int, ((((((h1.setCell (p14.add 2) (.slice a6 n16 c6)).setCells ((p16.add ((n2 : Int).toNat * 6)).add 0) #[.int .i64 n18, .string s2, .int .u64 n19, .bool b4]).setCell ((p16.add ((n2 : Int).toNat * 6)).add 5) (.bool Bool.true)).setCell (p18.add 4) (.int .i64 (IntKind.wrap .i64 (n20 + 1)))).cell? ((p16.add ((n2 : Int).toNat * 6)).add 4)) = (some (.int .u32 n21))) ∧ HC P arena_handle.n #[.int .i64 (n2 : Int), .int .u32 n21] ((((h1.setCell (p14.add 2) (.slice a6 n16 c6)).setCells ((p16.add ((n2 : Int).toNat * 6)).add 0) #[.int .i64 n18, .string s2, .int .u64 n19, .bool b4]).setCell ((p16.add ((n2 : Int).toNat * 6)).add 5) (.bool Bool.true)).setCell (p18.add 4) (.int .i64 (IntKind.wrap .i64 (n20 + 1)))) (fun v4 h2 => (∃ n22 : Int, (v4 = (.int .u64 n22)) ∧ K (.tuple #[.int .u64 n22, .int .i64 0]) h2))))))))))))))))
def arena_Arena_rot_entry_Put.k3 (p0 : Option Addr) (h : Hp) (b1 : Nat) (n0 : Int) (s0 : ByteArray) (n1 : Int) (b0 : Bool) (n2 : Nat) (K : Value → Hp → Prop) : Prop :=
 someD p0 (fun p12 => (∃ a5 : Option Addr, (∃ n14 : Nat, (∃ c5 : Nat, (((h.put b1 (.cells #[.int .i64 n0, .string s0, .int .u64 n1, .bool b0] T.rot_entry (0, 0))).cell? (p12.add 2)) = (some (.slice a5 n14 c5))) ∧ someD p0 (fun p13 => (∃ n15 : Int, (((h.put b1 (.cells #[.int .i64 n0, .string s0, .int .u64 n1, .bool b0] T.rot_entry (0, 0))).cell? (p13.add 1)) = (some (.int .u32 n15))) ∧ (∀ b3 : Nat, (((h.put b1 (.cells #[.int .i64 n0, .string s0, .int .u64 n1, .bool b0] T.rot_entry (0, 0))) b3) = none → wpSem P (Builtin.append_ #[T.sl_arena_spot_rot_entry, T.sl_arena_spot_rot_entry] T.sl_arena_spot_rot_entry #[.slice a5 n14 c5, .slice (some ⟨b3, 0, none⟩) 1 1]) (fun v2 h1 => (∃ a6 : Option Addr, (∃ n16 : Nat, (∃ c6 : Nat, (v2 = (.slice a6 n16 c6)) ∧ (arena_Arena_rot_entry_Put.k2 p0 h1 a6 n16 c6 n2 b1 K))))) ((h.put b1 (.cells #[.int .i64 n0, .string s0, .int .u64 n1, .bool b0] T.rot_entry (0, 0))).put b3 (.cells #[.int .i64 0, .string (⟨#[]⟩ : ByteArray), .int .u64 0, .bool Bool.false, .int .u32 n15, .bool Bool.false] T.arena_spot_rot_entry (0, 0)))))))))))
def arena_Arena_rot_entry_Put.k4 (p0 : Option Addr) (h : Hp) (b1 : Nat) (n0 : Int) (s0 : ByteArray) (n1 : Int) (b0 : Bool) (n2 : Nat) (K : Value → Hp → Prop) : Prop :=
 someD p0 (fun p11 => (∃ n13 : Int, (((h.put b1 (.cells #[.int .i64 n0, .string s0, .int .u64 n1, .bool b0] T.rot_entry (0, 0))).cell? (p11.add 0)) = (some (.int .i64 n13))) ∧ bcase (((n2 : Int) == n13))
 ((arena_Arena_rot_entry_Put.k0 K h b1 n0 s0 n1 b0))
 ((arena_Arena_rot_entry_Put.k3 p0 h b1 n0 s0 n1 b0 n2 K))))
def arena_Arena_rot_entry_Put.k5 (p0 : Option Addr) (h : Hp) (b1 : Nat) (n0 : Int) (s0 : ByteArray) (n1 : Int) (b0 : Bool) (K : Value → Hp → Prop) : Prop :=
 someD p0 (fun p1 => (∃ a0 : Option Addr, (∃ n2 : Nat, (∃ c0 : Nat, (((h.put b1 (.cells #[.int .i64 n0, .string s0, .int .u64 n1, .bool b0] T.rot_entry (0, 0))).cell? (p1.add 2)) = (some (.slice a0 n2 c0))) ∧ someD p0 (fun p2 => (∃ a1 : Option Addr, (∃ n3 : Nat, (∃ c1 : Nat, (((h.put b1 (.cells #[.int .i64 n0, .string s0, .int .u64 n1, .bool b0] T.rot_entry (0, 0))).cell? (p2.add 3)) = (some (.slice a1 n3 c1))) ∧ bcase (decide ((0 : Int) < (n3 : Int)))
 ((arena_Arena_rot_entry_Put.k1 p0 h b1 n0 s0 n1 b0 n3 K))
 ((arena_Arena_rot_entry_Put.k4 p0 h b1 n0 s0 n1 b0 n2 K))))))))))
def arena_Arena_rot_entry_Put (p0 : Option Addr) (n0 : Int) (s0 : ByteArray) (n1 : Int) (b0 : Bool) (K : Value → Hp → Prop) (h : Hp) : Prop :=
 (∀ b1 : Nat, ((h b1) = none → bcase (p0.isNone)
 ((arena_Arena_rot_entry_Put.k0 K h b1 n0 s0 n1 b0))
 ((arena_Arena_rot_entry_Put.k5 p0 h b1 n0 s0 n1 b0 K))))
theorem arena_Arena_rot_entry_Put.hc {p0 : Option Addr} {n0 : Int} {s0 : ByteArray} {n1 : Int} {b0 : Bool} {K : Value → Hp → Prop} {h : Hp} (hh : arena_Arena_rot_entry_Put p0 n0 s0 n1 b0 K h) : HC P arena_Arena_rot_entry_Put.n #[.pointer p0, .agg #[.int .i64 n0, .string s0, .int .u64 n1, .bool b0]] h K :=
  HC_of_den (fn := Go.Proofs.Tryz.f33) (args := [.pointer p0, .agg #[.int .i64 n0, .string s0, .int .u64 n1, .bool b0]]) Go.Proofs.Tryz.func33 rfl (Nat.le_of_ble_eq_true (by kernel_rfl)) (den_cast hh (by kernel_rfl))

def arena_Arena_rot_entry_Drop.k0 (h0 : Hp) (b1 : Nat) (b0 : Nat) (K : Value → Hp → Prop) : Prop :=
 (∃ n2 : Int, (∃ s0 : ByteArray, (∃ n3 : Int, (∃ b2 : Bool, (CellsAt h0 ⟨b1, 0, none⟩ 4 #[.int .i64 n2, .string s0, .int .u64 n3, .bool b2]) ∧ (((#[.int .i64 n2, .string s0, .int .u64 n3, .bool b2] : Array Value).size) = 4) ∧ (∀ v1 : Value, (v1 ∈ ([.int .i64 n2, .string s0, .int .u64 n3, .bool b2] : List Value) → (Den.cellish v1) = Bool.true)) ∧ (Free h0 ⟨b0, 0, none⟩ 4) ∧ (∃ n4 : Int, (∃ s1 : ByteArray, (∃ n5 : Int, (∃ b3 : Bool, (CellsAt (h0.setCells ⟨b0, 0, none⟩ #[.int .i64 n2, .string s0, .int .u64 n3, .bool b2]) ⟨b0, 0, none⟩ 4 #[.int .i64 n4, .string s1, .int .u64 n5, .bool b3]) ∧ K (.tuple #[.agg #[.int .i64 n4, .string s1, .int .u64 n5, .bool b3], .int .i64 2]) (h0.setCells ⟨b0, 0, none⟩ #[.int .i64 n2, .string s0, .int .u64 n3, .bool b2])))))))))
def arena_Arena_rot_entry_Drop.k1 (p0 : Option Addr) (h1 : Hp) (a2 : Option Addr) (n14 : Nat) (c1 : Nat) (b5 : Nat) (b0 : Nat) (K : Value → Hp → Prop) : Prop :=
 someD p0 (fun p10 => (∃ u3 : Value, (h1.cell? (p10.add 3)) = (some u3)) ∧ ((h1.frozen? (p10.add 3)) = Bool.false) ∧ (∃ n15 : Int, (∃ s4 : ByteArray, (∃ n16 : Int, (∃ b8 : Bool, (CellsAt (h1.setCell (p10.add 3) (.slice a2 n14 c1)) ⟨b5, 0, none⟩ 4 #[.int .i64 n15, .string s4, .int .u64 n16, .bool b8]) ∧ (((#[.int .i64 n15, .string s4, .int .u64 n16, .bool b8] : Array Value).size) = 4) ∧ (∀ v5 : Value, (v5 ∈ ([.int .i64 n15, .string s4, .int .u64 n16, .bool b8] : List Value) → (Den.cellish v5) = Bool.true)) ∧ (Free (h1.setCell (p10.add 3) (.slice a2 n14 c1)) ⟨b0, 0, none⟩ 4) ∧ (∃ n17 : Int, (∃ s5 : ByteArray, (∃ n18 : Int, (∃ b9 : Bool, (CellsAt ((h1.setCell (p10.add 3) (.slice a2 n14 c1)).setCells ⟨b0, 0, none⟩ #[.int .i64 n15, .string s4, .int .u64 n16, .bool b8]) ⟨b0, 0, none⟩ 4 #[.int .i64 n17, .string s5, .int .u64 n18, .bool b9]) ∧ K (.tuple #[.agg #[.int .i64 n17, .string s5, .int .u64 n18, .bool b9], .int .i64 0]) ((h1.setCell (p10.add 3) (.slice a2 n14 c1)).setCells ⟨b0, 0, none⟩ #[.int .i64 n15, .string s4, .int .u64 n16, .bool b8]))))))))))
def arena_Arena_rot_entry_Drop.k2 (a0 : Option Addr) (h0 : Hp) (b5 : Nat) (n6 : Int) (s2 : ByteArray) (n7 : Int) (b4 : Bool) (p2 : Addr) (n8 : Int) (s3 : ByteArray) (n9 : Int) (b6 : Bool) (p3 : Addr) (p5 : Addr) (n10 : Int) (p0 : Option Addr) (b0 : Nat) (K : Value → Hp → Prop) (n1 : Int) : Prop :=
 someD a0 (fun p7 => (∃ n12 : Int, (((((((h0.put b5 (.cells #[.int .i64 0, .string (⟨#[]⟩ : ByteArray), .int .u64 0, .bool Bool.false] T.rot_entry (0, 0))).setCells ⟨b5, 0, none⟩ #[.int .i64 n6, .string s2, .int .u64 n7, .bool b4]).setCells (p2.add 0) #[.int .i64 n8, .string s3, .int .u64 n9, .bool b6]).setCell (p3.add 5) (.bool Bool.false)).setCell (p5.add 4) (.int .i64 (IntKind.wrap .i64 (n10 - 1)))).cell? (p7.add 4)) = (some (.int .u32 n12))) ∧ someD a0 (fun p8 => (∃ u2 : Value, ((((((h0.put b5 (.cells #[.int .i64 0, .string (⟨#[]⟩ : ByteArray), .int .u64 0, .bool Bool.false] T.rot_entry (0, 0))).setCells ⟨b5, 0, none⟩ #[.int .i64 n6, .string s2, .int .u64 n7, .bool b4]).setCells (p2.add 0) #[.int .i64 n8, .string s3, .int .u64 n9, .bool b6]).setCell (p3.add 5) (.bool Bool.false)).setCell (p5.add 4) (.int .i64 (IntKind.wrap .i64 (n10 - 1)))).cell? (p8.add 4)) = (some u2)) ∧ (((((((h0.put b5 (.cells #[.int .i64 0, .string (⟨#[]⟩ : ByteArray), .int .u64 0, .bool Bool.false] T.rot_entry (0, 0))).setCells ⟨b5, 0, none⟩ #[.int .i64 n6, .string s2, .int .u64 n7, .bool b4]).setCells (p2.add 0) #[.int .i64 n8, .string s3, .int .u64 n9, .bool b6]).setCell (p3.add 5) (.bool Bool.false)).setCell (p5.add 4) (.int .i64 (IntKind.wrap .i64 (n10 - 1)))).frozen? (p8.add 4)) = Bool.false) ∧ someD p0 (fun p9 => (∃ a1 : Option Addr, (∃ n13 : Nat, (∃ c0 : Nat, ((((((((h0.put b5 (.cells #[.int .i64 0, .string (⟨#[]⟩ : ByteArray), .int .u64 0, .bool Bool.false] T.rot_entry (0, 0))).setCells ⟨b5, 0, none⟩ #[.int .i64 n6, .string s2, .int .u64 n7, .bool b4]).setCells (p2.add 0) #[.int .i64 n8, .string s3, .int .u64 n9, .bool b6]).setCell (p3.add 5) (.bool Bool.false)).setCell (p5.add 4) (.int .i64 (IntKind.wrap .i64 (n10 - 1)))).setCell (p8.add 4) (.int .u32 (IntKind.wrap .u32 (n12 + 1)))).cell? (p9.add 3)) = (some (.slice a1 n13 c0))) ∧ (∀ b7 : Nat, ((((((((h0.put b5 (.cells #[.int .i64 0, .string (⟨#[]⟩ : ByteArray), .int .u64 0, .bool Bool.false] T.rot_entry (0, 0))).setCells ⟨b5, 0, none⟩ #[.int .i64 n6, .string s2, .int .u64 n7, .bool b4]).setCells (p2.add 0) #[.int .i64 n8, .string s3, .int .u64 n9, .bool b6]).setCell (p3.add 5) (.bool Bool.false)).setCell (p5.add 4) (.int .i64 (IntKind.wrap .i64 (n10 - 1)))).setCell (p8.add 4) (.int .u32 (IntKind.wrap .u32 (n12 + 1)))) b7) = none → wpSem P (Builtin.append_ #[T.sl_int, T.sl_int] T.sl_int #[.slice a1 n13 c0, .slice (some ⟨b7, 0, none⟩) 1 1]) (fun v4 h1 => (∃ a2 : Option Addr, (∃ n14 : Nat, (∃ c1 : Nat, (v4 = (.slice a2 n14 c1)) ∧ (arena_Arena_rot_entry_Drop.k1 p0 h1 a2 n14 c1 b5 b0 K))))) (((((((h0.put b5 (.cells #[.int .i64 0, .string (⟨#[]⟩ : ByteArray), .int .u64 0, .bool Bool.false] T.rot_entry (0, 0))).setCells ⟨b5, 0, none⟩ #[.int .i64 n6, .string s2, .int .u64 n7, .bool b4]).setCells (p2.add 0) #[.int .i64 n8, .string s3, .int .u64 n9, .bool b6]).setCell (p3.add 5) (.bool Bool.false)).setCell (p5.add 4) (.int .i64 (IntKind.wrap .i64 (n10 - 1)))).setCell (p8.add 4) (.int .u32 (IntKind.wrap .u32 (n12 + 1)))).put b7 (.cells #[.int .i64 n1] T.int (0, 0))))))))))))
def arena_Arena_rot_entry_Drop.k3 (h0 : Hp) (b5 : Nat) (n6 : Int) (s2 : ByteArray) (n7 : Int) (b4 : Bool) (p2 : Addr) (n8 : Int) (s3 : ByteArray) (n9 : Int) (b6 : Bool) (p3 : Addr) (p5 : Addr) (n10 : Int) (b0 : Nat) (K : Value → Hp → Prop) : Prop :=
 (∃ n19 : Int, (∃ s6 : ByteArray, (∃ n20 : Int, (∃ b10 : Bool, (CellsAt (((((h0.put b5 (.cells #[.int .i64 0, .string (⟨#[]⟩ : ByteArray), .int .u64 0, .bool Bool.false] T.rot_entry (0, 0))).setCells ⟨b5, 0, none⟩ #[.int .i64 n6, .string s2, .int .u64 n7, .bool b4]).setCells (p2.add 0) #[.int .i64 n8, .string s3, .int .u64 n9, .bool b6]).setCell (p3.add 5) (.bool Bool.false)).setCell (p5.add 4) (.int .i64 (IntKind.wrap .i64 (n10 - 1)))) ⟨b5, 0, none⟩ 4 #[.int .i64 n19, .string s6, .int .u64 n20, .bool b10]) ∧ (((#[.int .i64 n19, .string s6, .int .u64 n20, .bool b10] : Array Value).size) = 4) ∧ (∀ v6 : Value, (v6 ∈ ([.int .i64 n19, .string s6, .int .u64 n20, .bool b10] : List Value) → (Den.cellish v6) = Bool.true)) ∧ (Free (((((h0.put b5 (.cells #[.int .i64 0, .string (⟨#[]⟩ : ByteArray), .int .u64 0, .bool Bool.false] T.rot_entry (0, 0))).setCells ⟨b5, 0, none⟩ #[.int .i64 n6, .string s2, .int .u64 n7, .bool b4]).setCells (p2.add 0) #[.int .i64 n8, .string s3, .int .u64 n9, .bool b6]).setCell (p3.add 5) (.bool Bool.false)).setCell (p5.add 4) (.int .i64 (IntKind.wrap .i64 (n10 - 1)))) ⟨b0, 0, none⟩ 4) ∧ (∃ n21 : Int, (∃ s7 : ByteArray, (∃ n22 : Int, (∃ b11 : Bool, (CellsAt ((((((h0.put b5 (.cells #[.int .i64 0, .string (⟨#[]⟩ : ByteArray), .int .u64 0, .bool Bool.false] T.rot_entry (0, 0))).setCells ⟨b5, 0, none⟩ #[.int .i64 n6, .string s2, .int .u64 n7, .bool b4]).setCells (p2.add 0) #[.int .i64 n8, .string s3, .int .u64 n9, .bool b6]).setCell (p3.add 5) (.bool Bool.false)).setCell (p5.add 4) (.int .i64 (IntKind.wrap .i64 (n10 - 1)))).setCells ⟨b0, 0, none⟩ #[.int .i64 n19, .string s6, .int .u64 n20, .bool b10]) ⟨b0, 0, none⟩ 4 #[.int .i64 n21, .string s7, .int .u64 n22, .bool b11]) ∧ K (.tuple #[.agg #[.int .i64 n21, .string s7, .int .u64 n22, .bool b11], .int .i64 0]) ((((((h0.put b5 (.cells #[.int .i64 0, .string (⟨#[]⟩ : ByteArray), .int .u64 0, .bool Bool.false] T.rot_entry (0, 0))).setCells ⟨b5, 0, none⟩ #[.int .i64 n6, .string s2, .int .u64 n7, .bool b4]).setCells (p2.add 0) #[.int .i64 n8, .string s3, .int .u64 n9, .bool b6]).setCell (p3.add 5) (.bool Bool.false)).setCell (p5.add 4) (.int .i64 (IntKind.wrap .i64 (n10 - 1)))).setCells ⟨b0, 0, none⟩ #[.int .i64 n19, .string s6, .int .u64 n20, .bool b10])))))))))
def arena_Arena_rot_entry_Drop.k4 (a0 : Option Addr) (h0 : Hp) (b1 : Nat) (p0 : Option Addr) (b0 : Nat) (K : Value → Hp → Prop) (n1 : Int) : Prop :=
 someD a0 (fun p1 => (∃ n6 : Int, (∃ s2 : ByteArray, (∃ n7 : Int, (∃ b4 : Bool, (CellsAt h0 (p1.add 0) 4 #[.int .i64 n6, .string s2, .int .u64 n7, .bool b4]) ∧ (∀ b5 : Nat, ((h0 b5) = none → (((#[.int .i64 n6, .string s2, .int .u64 n7, .bool b4] : Array Value).size) = 4) ∧ (∀ v2 : Value, (v2 ∈ ([.int .i64 n6, .string s2, .int .u64 n7, .bool b4] : List Value) → (Den.cellish v2) = Bool.true)) ∧ (Free (h0.put b5 (.cells #[.int .i64 0, .string (⟨#[]⟩ : ByteArray), .int .u64 0, .bool Bool.false] T.rot_entry (0, 0))) ⟨b5, 0, none⟩ 4) ∧ (∃ n8 : Int, (∃ s3 : ByteArray, (∃ n9 : Int, (∃ b6 : Bool, (CellsAt ((h0.put b5 (.cells #[.int .i64 0, .string (⟨#[]⟩ : ByteArray), .int .u64 0, .bool Bool.false] T.rot_entry (0, 0))).setCells ⟨b5, 0, none⟩ #[.int .i64 n6, .string s2, .int .u64 n7, .bool b4]) ⟨b1, 0, none⟩ 4 #[.int .i64 n8, .string s3, .int .u64 n9, .bool b6]) ∧ someD a0 (fun p2 => (((#[.int .i64 n8, .string s3, .int .u64 n9, .bool b6] : Array Value).size) = 4) ∧ (∀ v3 : Value, (v3 ∈ ([.int .i64 n8, .string s3, .int .u64 n9, .bool b6] : List Value) → (Den.cellish v3) = Bool.true)) ∧ (Free ((h0.put b5 (.cells #[.int .i64 0, .string (⟨#[]⟩ : ByteArray), .int .u64 0, .bool Bool.false] T.rot_entry (0, 0))).setCells ⟨b5, 0, none⟩ #[.int .i64 n6, .string s2, .int .u64 n7, .bool b4]) (p2.add 0) 4) ∧ someD a0 (fun p3 => (∃ u0 : Value, ((((h0.put b5 (.cells #[.int .i64 0, .string (⟨#[]⟩ : ByteArray), .int .u64 0, .bool Bool.false] T.rot_entry (0, 0))).setCells ⟨b5, 0, none⟩ #[.int .i64 n6, .string s2, .int .u64 n7, .bool b4]).setCells (p2.add 0) #[.int .i64 n8, .string s3, .int .u64 n9, .bool b6]).cell? (p3.add 5)) = (some u0)) ∧ (((((h0.put b5 (.cells #[.int .i64 0, .string (⟨#[]⟩ : ByteArray), .int .u64 0, .bool Bool.false] T.rot_entry (0, 0))).setCells ⟨b5, 0, none⟩ #[.int .i64 n6, .string s2, .int .u64 n7, .bool b4]).setCells (p2.add 0) #[.int .i64 n8, .string s3, .int .u64 n9, .bool b6]).frozen? (p3.add 5)) = Bool.false) ∧ someD p0 (fun p4 => (∃ n10 : Int, ((((((h0.put b5 (.cells #[.int .i64 0, .string (⟨#[]⟩ : ByteArray), .int .u64 0, .bool Bool.false] T.rot_entry (0, 0))).setCells ⟨b5, 0, none⟩ #[.int .i64 n6, .string s2, .int .u64 n7, .bool b4]).setCells (p2.add 0) #[.int .i64 n8, .string s3, .int .u64 n9, .bool b6]).setCell (p3.add 5) (.bool Bool.false)).cell? (p4.add 4)) = (some (.int .i64 n10))) ∧ someD p0 (fun p5 => (∃ u1 : Value, (((((h0.put b5 (.cells #[.int .i64 0, .string (⟨#[]⟩ : ByteArray), .int .u64 0, .bool Bool.false] T.rot_entry (0, 0))).setCells ⟨b5, 0, none⟩ #[.int .i64 n6, .string s2, .int .u64 n7, .bool b4]).setCells (p2.add 0) #[.int .i64 n8, .string s3, .int .u64 n9, .bool b6]).setCell (p3.add 5) (.bool Bool.false)).cell? (p5.add 4)) = (some u1)) ∧ ((((((h0.put b5 (.cells #[.int .i64 0, .string (⟨#[]⟩ : ByteArray), .int .u64 0, .bool Bool.false] T.rot_entry (0, 0))).setCells ⟨b5, 0, none⟩ #[.int .i64 n6, .string s2, .int .u64 n7, .bool b4]).setCells (p2.add 0) #[.int .i64 n8, .string s3, .int .u64 n9, .bool b6]).setCell (p3.add 5) (.bool Bool.false)).frozen? (p5.add 4)) = Bool.false) ∧ someD a0 (fun p6 => (∃ n11 : Int, (((((((h0.put b5 (.cells #[.int .i64 0, .string (⟨#[]⟩ : ByteArray), .int .u64 0, .bool Bool.false] T.rot_entry (0, 0))).setCells ⟨b5, 0, none⟩ #[.int .i64 n6, .string s2, .int .u64 n7, .bool b4]).setCells (p2.add 0) #[.int .i64 n8, .string s3, .int .u64 n9, .bool b6]).setCell (p3.add 5) (.bool Bool.false)).setCell (p5.add 4) (.int .i64 (IntKind.wrap .i64 (n10 - 1)))).cell? (p6.add 4)) = (some (.int .u32 n11))) ∧ bcase (decide (n11 < 4294967295))
 ((arena_Arena_rot_entry_Drop.k2 a0 h0 b5 n6 s2 n7 b4 p2 n8 s3 n9 b6 p3 p5 n10 p0 b0 K n1))
 ((arena_Arena_rot_entry_Drop.k3 h0 b5 n6 s2 n7 b4 p2 n8 s3 n9 b6 p3 p5 n10 b0 K))))))))))))))))))))
def arena_Arena_rot_entry_Drop.k5 (a0 : Option Addr) (h0 : Hp) (b1 : Nat) (b0 : Nat) (K : Value → Hp → Prop) (p0 : Option Addr) (n1 : Int) : Prop :=
 bcase (a0.isNone)
 ((arena_Arena_rot_entry_Drop.k0 h0 b1 b0 K))
 ((arena_Arena_rot_entry_Drop.k4 a0 h0 b1 p0 b0 K n1))
def arena_Arena_rot_entry_Drop (p0 : Option Addr) (n0 : Int) (K : Value → Hp → Prop) (h : Hp) : Prop :=
 (∀ b0 : Nat, ((h b0) = none → (∀ b1 : Nat, (((h.put b0 (.cells #[.int .i64 0, .string (⟨#[]⟩ : ByteArray), .int .u64 0, .bool Bool.false] T.rot_entry (0, 0))) b1) = none → HC P arena_Arena_rot_entry_find.n #[.pointer p0, .int .u64 n0] ((h.put b0 (.cells #[.int .i64 0, .string (⟨#[]⟩ : ByteArray), .int .u64 0, .bool Bool.false] T.rot_entry (0, 0))).put b1 (.cells #[.int .i64 0, .string (⟨#[]⟩ : ByteArray), .int .u64 0, .bool Bool.false] T.rot_entry (0, 0))) (fun v0 h0 => (∃ a0 : Option Addr, (∃ n1 : Int, (v0 = (.tuple #[.pointer a0, .int .i64 n1])) ∧ (arena_Arena_rot_entry_Drop.k5 a0 h0 b1 b0 K p0 n1))))))))
def arena_Arena_rot_entry_All (p0 : Option Addr) (K : Value → Hp → Prop) (h : Hp) : Prop :=
 (∀ b0 : Nat, ((h b0) = none → K (.func (.func arena_Arena_rot_entry_All_1.n) #[] #[.pointer (some ⟨b0, 0, none⟩)]) (h.put b0 (.cells #[.pointer p0] T.ptr_arena_Arena_rot_entry (0, 0)))))
theorem arena_Arena_rot_entry_All.hc {p0 : Option Addr} {K : Value → Hp → Prop} {h : Hp} (hh : arena_Arena_rot_entry_All p0 K h) : HC P arena_Arena_rot_entry_All.n #[.pointer p0] h K :=
  HC_of_den (fn := Go.Proofs.Tryz.f35) (args := [.pointer p0]) Go.Proofs.Tryz.func35 rfl (Nat.le_of_ble_eq_true (by kernel_rfl)) (den_cast hh (by kernel_rfl))

def arena_Arena_rot_entry_All_1.k0 (I0 : List Value → Hp → Prop) (n2 : Int) (h3 : Hp) (x0 : List Value → Hp → Nat) (h1 : Hp) : Prop :=
 (I0 [.int .i64 (IntKind.wrap .i64 (n2 + 1))] h3) ∧ (x0 [.int .i64 (IntKind.wrap .i64 (n2 + 1))] h3) < (x0 [.int .i64 n2] h1)
def arena_Arena_rot_entry_All_1.k1 (b6 : Bool) (K : Value → Hp → Prop) (h3 : Hp) (I0 : List Value → Hp → Prop) (n2 : Int) (x0 : List Value → Hp → Nat) (h1 : Hp) : Prop :=
 bcase ((!b6))
 (K (.tuple #[]) h3)
 ((arena_Arena_rot_entry_All_1.k0 I0 n2 h3 x0 h1))
def arena_Arena_rot_entry_All_1.k2 (h2 : Hp) (b3 : Nat) (n8 : Int) (s1 : ByteArray) (n9 : Int) (b5 : Bool) (l0 : Nat) (n7 : Int) (K : Value → Hp → Prop) (I0 : List Value → Hp → Prop) (n2 : Int) (x0 : List Value → Hp → Nat) (h1 : Hp) : Prop :=
 (CellsAt h2 ((⟨b3, 0, none⟩ : Addr).add 0) 4 #[.int .i64 n8, .string s1, .int .u64 n9, .bool b5]) ∧ HY P l0 #[.int .u64 n7, .agg #[.int .i64 n8, .string s1, .int .u64 n9, .bool b5]] h2 (fun v3 h3 => (∃ b6 : Bool, (v3 = (.bool b6)) ∧ (arena_Arena_rot_entry_All_1.k1 b6 K h3 I0 n2 x0 h1)))
def arena_Arena_rot_entry_All_1.k3 (l0 : Nat) (n12 : Int) (n10 : Int) (s2 : ByteArray) (n11 : Int) (b7 : Bool) (h4 : Hp) (K : Value → Hp → Prop) (I0 : List Value → Hp → Prop) (n2 : Int) (x0 : List Value → Hp → Nat) (h1 : Hp) : Prop :=
 HY P l0 #[.int .u64 n12, .agg #[.int .i64 n10, .string s2, .int .u64 n11, .bool b7]] h4 (fun v5 h5 => (∃ b8 : Bool, (v5 = (.bool b8)) ∧ (arena_Arena_rot_entry_All_1.k1 b8 K h5 I0 n2 x0 h1)))
def arena_Arena_rot_entry_All_1.k4 (h1 : Hp) (b3 : Nat) (n3 : Int) (s0 : ByteArray) (n4 : Int) (b1 : Bool) (n5 : Int) (b2 : Bool) (n2 : Int) (l0 : Nat) (K : Value → Hp → Prop) (I0 : List Value → Hp → Prop) (x0 : List Value → Hp → Nat) : Prop :=
 (∃ n6 : Int, ((((h1.put b3 (.cells #[.int .i64 0, .string (⟨#[]⟩ : ByteArray), .int .u64 0, .bool Bool.false, .int .u32 0, .bool Bool.false] T.arena_spot_rot_entry (0, 0))).setCells ⟨b3, 0, none⟩ #[.int .i64 n3, .string s0, .int .u64 n4, .bool b1, .int .u32 n5, .bool b2]).cell? ((⟨b3, 0, none⟩ : Addr).add 4)) = (some (.int .u32 n6))) ∧ (HC P arena_handle.n #[.int .i64 n2, .int .u32 n6] ((h1.put b3 (.cells #[.int .i64 0, .string (⟨#[]⟩ : ByteArray), .int .u64 0, .bool Bool.false, .int .u32 0, .bool Bool.false] T.arena_spot_rot_entry (0, 0))).setCells ⟨b3, 0, none⟩ #[.int .i64 n3, .string s0, .int .u64 n4, .bool b1, .int .u32 n5, .bool b2]) (fun v2 h2 => (∃ n7 : Int, (v2 = (.int .u64 n7)) ∧ (∃ n8 : Int, (∃ s1 : ByteArray, (∃ n9 : Int, (∃ b5 : Bool, (arena_Arena_rot_entry_All_1.k2 h2 b3 n8 s1 n9 b5 l0 n7 K I0 n2 x0 h1)))))))) ∧ (∃ n10 : Int, (∃ s2 : ByteArray, (∃ n11 : Int, (∃ b7 : Bool, (CellsAt ((h1.put b3 (.cells #[.int .i64 0, .string (⟨#[]⟩ : ByteArray), .int .u64 0, .bool Bool.false, .int .u32 0, .bool Bool.false] T.arena_spot_rot_entry (0, 0))).setCells ⟨b3, 0, none⟩ #[.int .i64 n3, .string s0, .int .u64 n4, .bool b1, .int .u32 n5, .bool b2]) ((⟨b3, 0, none⟩ : Addr).add 0) 4 #[.int .i64 n10, .string s2, .int .u64 n11, .bool b7]) ∧ HC P arena_handle.n #[.int .i64 n2, .int .u32 n6] ((h1.put b3 (.cells #[.int .i64 0, .string (⟨#[]⟩ : ByteArray), .int .u64 0, .bool Bool.false, .int .u32 0, .bool Bool.false] T.arena_spot_rot_entry (0, 0))).setCells ⟨b3, 0, none⟩ #[.int .i64 n3, .string s0, .int .u64 n4, .bool b1, .int .u32 n5, .bool b2]) (fun v4 h4 => (∃ n12 : Int, (v4 = (.int .u64 n12)) ∧ (arena_Arena_rot_entry_All_1.k3 l0 n12 n10 s2 n11 b7 h4 K I0 n2 x0 h1))))))))
def arena_Arena_rot_entry_All_1.k5 (I0 : List Value → Hp → Prop) (n2 : Int) (h1 : Hp) (b3 : Nat) (n3 : Int) (s0 : ByteArray) (n4 : Int) (b1 : Bool) (n5 : Int) (b2 : Bool) (x0 : List Value → Hp → Nat) : Prop :=
 ((I0 [.int .i64 (IntKind.wrap .i64 (n2 + 1))] ((h1.put b3 (.cells #[.int .i64 0, .string (⟨#[]⟩ : ByteArray), .int .u64 0, .bool Bool.false, .int .u32 0, .bool Bool.false] T.arena_spot_rot_entry (0, 0))).setCells ⟨b3, 0, none⟩ #[.int .i64 n3, .string s0, .int .u64 n4, .bool b1, .int .u32 n5, .bool b2])) ∧ (x0 [.int .i64 (IntKind.wrap .i64 (n2 + 1))] ((h1.put b3 (.cells #[.int .i64 0, .string (⟨#[]⟩ : ByteArray), .int .u64 0, .bool Bool.false, .int .u32 0, .bool Bool.false] T.arena_spot_rot_entry (0, 0))).setCells ⟨b3, 0, none⟩ #[.int .i64 n3, .string s0, .int .u64 n4, .bool b1, .int .u32 n5, .bool b2])) < (x0 [.int .i64 n2] h1)) ∧ (I0 [.int .i64 (IntKind.wrap .i64 (n2 + 1))] ((h1.put b3 (.cells #[.int .i64 0, .string (⟨#[]⟩ : ByteArray), .int .u64 0, .bool Bool.false, .int .u32 0, .bool Bool.false] T.arena_spot_rot_entry (0, 0))).setCells ⟨b3, 0, none⟩ #[.int .i64 n3, .string s0, .int .u64 n4, .bool b1, .int .u32 n5, .bool b2])) ∧ (x0 [.int .i64 (IntKind.wrap .i64 (n2 + 1))] ((h1.put b3 (.cells #[.int .i64 0, .string (⟨#[]⟩ : ByteArray), .int .u64 0, .bool Bool.false, .int .u32 0, .bool Bool.false] T.arena_spot_rot_entry (0, 0))).setCells ⟨b3, 0, none⟩ #[.int .i64 n3, .string s0, .int .u64 n4, .bool b1, .int .u32 n5, .bool b2])) < (x0 [.int .i64 n2] h1)
def arena_Arena_rot_entry_All_1.k6 (n2 : Int) (n1 : Nat) (a3 : Option Addr) (h1 : Hp) (l0 : Nat) (K : Value → Hp → Prop) (I0 : List Value → Hp → Prop) (x0 : List Value → Hp → Nat) : Prop :=
 ((0 : Int) ≤ n2) ∧ (n2 < (n1 : Int)) ∧ someD a3 (fun p3 => (∃ n3 : Int, (∃ s0 : ByteArray, (∃ n4 : Int, (∃ b1 : Bool, (∃ n5 : Int, (∃ b2 : Bool, (CellsAt h1 (p3.add (n2.toNat * 6)) 6 #[.int .i64 n3, .string s0, .int .u64 n4, .bool b1, .int .u32 n5, .bool b2]) ∧ (∀ b3 : Nat, ((h1 b3) = none → (((#[.int .i64 n3, .string s0, .int .u64 n4, .bool b1, .int .u32 n5, .bool b2] : Array Value).size) = 6) ∧ (∀ v1 : Value, (v1 ∈ ([.int .i64 n3, .string s0, .int .u64 n4, .bool b1, .int .u32 n5, .bool b2] : List Value) → (Den.cellish v1) = Bool.true)) ∧ (Free (h1.put b3 (.cells #[.int .i64 0, .string (⟨#[]⟩ : ByteArray), .int .u64 0, .bool Bool.false, .int .u32 0, .bool Bool.false] T.arena_spot_rot_entry (0, 0))) ⟨b3, 0, none⟩ 6) ∧ (∃ b4 : Bool, ((((h1.put b3 (.cells #[.int .i64 0, .string (⟨#[]⟩ : ByteArray), .int .u64 0, .bool Bool.false, .int .u32 0, .bool Bool.false] T.arena_spot_rot_entry (0, 0))).setCells ⟨b3, 0, none⟩ #[.int .i64 n3, .string s0, .int .u64 n4, .bool b1, .int .u32 n5, .bool b2]).cell? ((⟨b3, 0, none⟩ : Addr).add 5)) = (some (.bool b4))) ∧ bcase (b4)
 ((arena_Arena_rot_entry_All_1.k4 h1 b3 n3 s0 n4 b1 n5 b2 n2 l0 K I0 x0))
 ((arena_Arena_rot_entry_All_1.k5 I0 n2 h1 b3 n3 s0 n4 b1 n5 b2 x0))))))))))))
def arena_Arena_rot_entry_All_1.k7 (I0 : List Value → Hp → Prop) (h0 : Hp) (n1 : Nat) (a3 : Option Addr) (l0 : Nat) (K : Value → Hp → Prop) (x0 : List Value → Hp → Nat) : Prop :=
 (I0 [.int .i64 0] h0) ∧ (∀ h1 : Hp, (∀ n2 : Int, (I0 [.int .i64 n2] h1 → bcase (decide (n2 < (n1 : Int)))
 ((arena_Arena_rot_entry_All_1.k6 n2 n1 a3 h1 l0 K I0 x0))
 (K (.tuple #[]) h1))))
def arena_Arena_rot_entry_All_1.k8 (h : Hp) (fv0 : Option Addr) (l0 : Nat) (K : Value → Hp → Prop) : Prop :=
 (∀ b0 : Nat, ((h b0) = none → someD fv0 (fun p1 => (∃ a1 : Option Addr, (((h.put b0 (.cells #[] T.arena_spot_rot_entry (0, 0))).cell? p1) = (some (.pointer a1))) ∧ someD a1 (fun p2 => (∃ a2 : Option Addr, (∃ n0 : Nat, (∃ c0 : Nat, (((h.put b0 (.cells #[] T.arena_spot_rot_entry (0, 0))).cell? (p2.add 2)) = (some (.slice a2 n0 c0))) ∧ wpSem P (Builtin.append_ #[T.sl_arena_spot_rot_entry, T.sl_arena_spot_rot_entry] T.sl_arena_spot_rot_entry #[.slice (some ⟨b0, 0, none⟩) 0 0, .slice a2 n0 c0]) (fun v0 h0 => (∃ a3 : Option Addr, (∃ n1 : Nat, (∃ c1 : Nat, (v0 = (.slice a3 n1 c1)) ∧ (∃ I0 : List Value → Hp → Prop, (∃ x0 : List Value → Hp → Nat, (arena_Arena_rot_entry_All_1.k7 I0 h0 n1 a3 l0 K x0))))))) (h.put b0 (.cells #[] T.arena_spot_rot_entry (0, 0)))))))))))
def arena_Arena_rot_entry_All_1 (l0 : Nat) (fv0 : Option Addr) (K : Value → Hp → Prop) (h : Hp) : Prop :=
 someD fv0 (fun p0 => (∃ a0 : Option Addr, ((h.cell? p0) = (some (.pointer a0))) ∧ bcase (a0.isNone)
 (K (.tuple #[]) h)
 ((arena_Arena_rot_entry_All_1.k8 h fv0 l0 K))))
theorem arena_Arena_rot_entry_All_1.hc {l0 : Nat} {fv0 : Option Addr} {K : Value → Hp → Prop} {h : Hp} (hh : arena_Arena_rot_entry_All_1 l0 fv0 K h) : HC P arena_Arena_rot_entry_All_1.n #[.func (.yield l0) #[] #[], .pointer fv0] h K :=
  HC_of_den (fn := Go.Proofs.Tryz.f49) (args := [.func (.yield l0) #[] #[], .pointer fv0]) Go.Proofs.Tryz.func49 rfl (Nat.le_of_ble_eq_true (by kernel_rfl)) (den_cast hh (by kernel_rfl))

end
end Go.Den.Mon
end

section
set_option linter.unusedVariables false
set_option maxRecDepth 100000
namespace Go.Den.Rot
open Go Go.Den Go.Den.Mon
variable {h : Hp} {c : Col} {K : Value → Hp → Prop}
theorem handle_spec {i g : Nat} (hi : i < 4294967295) (hg : g < 4294967296) (hk : K (.int .u64 (hd i g : Nat)) h) : HC P arena_handle.n #[.int .i64 (i : Int), .int .u32 (g : Int)] h K := by
  refine arena_handle.hc ?_
  unfold arena_handle
  refine ⟨by omega, ?_⟩
  have e1 : IntKind.wrap .u64 (g : Int) = (g : Int) := wrapU64 rfl (by omega)
  have e2 : IntKind.wrap .u64 ((g : Int) * (2 ^ Min.min ((32 : Int).toNat) 64)) = ((g * 4294967296 : Nat) : Int) := by
    rw [show ((2 : Int) ^ Min.min ((32 : Int).toNat) 64) = 4294967296 from rfl]
    exact wrapU64 (by simp) (by omega)
  have e3 : IntKind.wrap .i64 ((i : Int) + 1) = ((i + 1 : Nat) : Int) := wrapN (by simp) (by omega)
  have e4 : IntKind.wrap .u64 ((i + 1 : Nat) : Int) = ((i + 1 : Nat) : Int) := wrapU64 rfl (by omega)
  rw [e1, e2, e3, e4, bits_or_u64_nat _ _ (by omega) (by omega)]
  have e5 : (g * 4294967296 ||| (i + 1)) = hd i g := by
    have := Nat.two_pow_add_eq_or_of_lt (i := 32) (b := i + 1) (by omega) g
    unfold hd
    rw [show g * 4294967296 = 2 ^ 32 * g by omega, ← this]; omega
  rw [e5]; exact hk
/-! ### The arena's blocks -/
def evs (e : Ent) : List Value := [.int .i64 e.owner, .string (str e.txt), .int .u64 (e.tgt : Int), .bool e.strong]
def sv (s : Sp) : List Value := [.int .i64 s.x.owner, .string (str s.x.txt), .int .u64 (s.x.tgt : Int), .bool s.x.strong, .int .u32 (s.g : Int), .bool s.t]
theorem sv_len (s : Sp) : (sv s).length = 6 := rfl
theorem sv_cellish (s : Sp) : ∀ v ∈ sv s, cellish v = true := by intro v hv; simp [sv] at hv; rcases hv with rfl | rfl | rfl | rfl | rfl | rfl <;> rfl
theorem evs_cellish (e : Ent) : ∀ v ∈ evs e, cellish v = true := by intro v hv; simp [evs] at hv; rcases hv with rfl | rfl | rfl | rfl <;> rfl
def svs (l : List Sp) : List Value := l.flatMap sv
def ints (l : List Nat) : List Value := l.map fun (n : Nat) => .int .i64 (n : Int)
theorem slSpot : SliceTy P T.sl_arena_spot_rot_entry T.arena_spot_rot_entry 6 := sliceTy_of (by kernel_rfl)
structure ArR (h : Hp) (c : Col) (A : Nat) (most : Nat) (sp : List Sp) (fr : List Nat) (sa : Option Addr) (sc : Nat) (fa : Option Addr) (fc : Nat) (cnt : Int) : Prop where
  blk : h A = some (.cells #[.int .i64 most, .int .u32 1, .slice sa sp.length sc, .slice fa fr.length fc, .int .i64 cnt] T.arena_Arena_rot_entry (0, 0))
  col : c A = (1, 0)
  spots : Sl h c (1, 1) T.arena_spot_rot_entry 6 sa sp.length sc (svs sp)
  free : Sl h c (1, 2) T.int 1 fa fr.length fc (ints fr)
  g : ∀ s ∈ sp, s.g < 4294967296
  len : sp.length ≤ most ∧ most ≤ 65536
  frok : ∀ i ∈ fr, i < sp.length
  fre : Fre sp fr
theorem Fre.len {sp : List Sp} {fr : List Nat} (f : Fre sp fr) : fr.length ≤ sp.length := nodup_le f.fn fun x hx => by
  obtain ⟨s', h1, -⟩ := f.fz x hx
  exact (List.getElem?_eq_some_iff.1 h1).1
def ArAt (h : Hp) (c : Col) (A : Nat) (most : Nat) (sp : List Sp) (fr : List Nat) : Prop := ∃ sa sc fa fc cnt, ArR h c A most sp fr sa sc fa fc cnt
variable {A most : Nat} {sp : List Sp} {fr : List Nat}
theorem ArR.keep {h' : Hp} {c' : Col} {sa : Option Addr} {sc : Nat} {fa : Option Addr} {fc : Nat} {cnt : Int} (t : ArR h c A most sp fr sa sc fa fc cnt) (s : Same (fun r => r.1 = 1) h c h' c') : ArR h' c' A most sp fr sa sc fa fc cnt := by
  obtain ⟨e1, e2⟩ := s A (by rw [t.col])
  exact ⟨e1.trans t.blk, e2.trans t.col, t.spots.keep (s.weak fun r e => by rw [e]), t.free.keep (s.weak fun r e => by rw [e]), t.g, t.len, t.frok, t.fre⟩
theorem ArAt.keep {h' : Hp} {c' : Col} (t : ArAt h c A most sp fr) (s : Same (fun r => r.1 = 1) h c h' c') : ArAt h' c' A most sp fr := by
  obtain ⟨sa, sc, fa, fc, cnt, t⟩ := t
  exact ⟨sa, sc, fa, fc, cnt, t.keep s⟩
theorem New_spec {n : Int} (w : WF h c) (hn : 1 ≤ n ∧ n ≤ 65536) (hk : ∀ A h' c', ArAt h' c' A n.toNat [] [] → Chg (fun r => r.1 = 1) h c h' c' → K (.tuple #[.pointer (some ⟨A, 0, none⟩), .int .i64 0]) h') :
    HC P arena_New_rot_entry.n #[.int .i64 n, .int .u32 1] h K := by
  refine arena_New_rot_entry.hc ?_
  unfold arena_New_rot_entry
  refine bcF (decide_eq_false (by omega)) ?_
  unfold arena_New_rot_entry.k2
  refine bcF (decide_eq_false (by omega)) ?_
  unfold arena_New_rot_entry.k1
  refine bcF rfl ?_
  unfold arena_New_rot_entry.k0
  intro A hA
  refine hk A _ (c.set A (1, 0)) ⟨none, 0, none, 0, 0, ?_, Col.set_self, Sl.none, Sl.none, by simp, by simp; omega, by simp, .nil⟩ ((Chg.refl w).newC hA)
  rw [put_self, show ((n.toNat : Nat) : Int) = n by omega]; rfl
/-! ### What a handle finds -/
/-! ### A thing is written -/
theorem offA_zero {a : Option Addr} {n : Nat} : offA a n 0 1 = a := by
  unfold offA
  split
  · rfl
  · cases a with
    | none => rfl
    | some p => simp [Addr.add]
theorem Sl_shorter {h : Hp} {c : Col} {r : Rg} {T : TypeId} {a : Option Addr} {len cap : Nat} {vs : List Value} {v : Value} (s : Sl h c r T 1 a (len + 1) cap (vs ++ [v])) : Sl h c r T 1 a len cap vs := by
  obtain ⟨o, s, ho⟩ := s
  have hl := s.length
  have hle := s.le_cap
  cases s with
  | @some b off len' cap' pre vs' rest post hb hp h1 h2 h3 h4 =>
    refine ⟨[b], .some (pre := pre) (vs := vs) (rest := v :: rest) (post := post) (by rw [hb]; simp) hp (by simp at h1; simpa using h1) (by simp at h2 ⊢; omega) (by omega) (fun _ _ => trivial), ho⟩
theorem set4_eq {b o : Nat} {x : Ent} : h.setCells ⟨b, o, none⟩ (evs x).toArray = (((h.setCell ⟨b, o + 0, none⟩ (.int .i64 x.owner)).setCell ⟨b, o + 1, none⟩ (.string (str x.txt))).setCell ⟨b, o + 2, none⟩ (.int .u64 (x.tgt : Int))).setCell ⟨b, o + 3, none⟩ (.bool x.strong) := by
  simp [Hp.setCells, setCellsFrom, evs, Addr.add_mk]
theorem set4_ne {b o k : Nat} {x : Ent} (hk : k ≠ b) : (h.setCells ⟨b, o, none⟩ (evs x).toArray) k = h k := by
  rw [set4_eq, setCell_ne hk, setCell_ne hk, setCell_ne hk, setCell_ne hk]
theorem set4_chg {S : Rg → Prop} {h0 : Hp} {c0 : Col} {b o : Nat} {x : Ent} (a : Chg S h0 c0 h c) (hs : h0 b = none ∨ S (c b)) : Chg S h0 c0 (h.setCells ⟨b, o, none⟩ (evs x).toArray) c := by
  rw [set4_eq]
  exact (((a.set hs).set hs).set hs).set hs
theorem wr4 {r : Rg} {len cap b off i : Nat} {s0 : Sp} (S : Sl h c r T.arena_spot_rot_entry 6 (some ⟨b, off, none⟩) len cap (svs sp)) (hi : sp[i]? = some s0) (x : Ent) :
    Free h ⟨b, off + i * 6, none⟩ 4 ∧ CellsAt h ⟨b, off + i * 6, none⟩ 4 (evs s0.x).toArray ∧ Sl (h.setCells ⟨b, off + i * 6, none⟩ (evs x).toArray) c r T.arena_spot_rot_entry 6 (some ⟨b, off, none⟩) len cap (svs (sp.set i ⟨x, s0.g, s0.t⟩)) := by
  have hil := (List.getElem?_eq_some_iff.1 hi).1
  have st : ∀ (y : Sp), (sp.set i y)[i]? = some y := fun y => by simp [hil]
  refine ⟨fun j hj => ?_, ⟨rfl, fun j v hv => ?_⟩, ?_⟩
  · obtain ⟨_, _, e', -, c0, f0, -⟩ := S.fld sv_len hi (j := j) (by omega)
    cases e'
    rw [Addr.add_mk]
    exact ⟨⟨_, c0.trans (List.getElem?_eq_getElem (by rw [sv_len]; omega))⟩, f0⟩
  · have hj : j < 4 := (Array.getElem?_eq_some_iff.1 hv).1
    obtain ⟨_, _, e', -, c0, -, -⟩ := S.fld sv_len hi (j := j) (by omega)
    cases e'
    rw [Addr.add_mk, c0, ← hv, List.getElem?_toArray]
    match j, hj with
    | 0, _ => rfl
    | 1, _ => rfl
    | 2, _ => rfl
    | 3, _ => rfl
  · rw [set4_eq]
    obtain ⟨_, _, e', -, -, -, s0'⟩ := S.fld sv_len hi (j := 0) (by omega)
    cases e'
    have S1 := s0' (.int .i64 x.owner) ⟨⟨x.owner, s0.x.txt, s0.x.tgt, s0.x.strong⟩, s0.g, s0.t⟩ rfl
    obtain ⟨_, _, e', -, -, -, s1⟩ := S1.fld sv_len (st _) (j := 1) (by omega)
    cases e'
    have S2 := s1 (.string (str x.txt)) ⟨⟨x.owner, x.txt, s0.x.tgt, s0.x.strong⟩, s0.g, s0.t⟩ rfl
    rw [List.set_set] at S2
    obtain ⟨_, _, e', -, -, -, s2⟩ := S2.fld sv_len (st _) (j := 2) (by omega)
    cases e'
    have S3 := s2 (.int .u64 (x.tgt : Int)) ⟨⟨x.owner, x.txt, x.tgt, s0.x.strong⟩, s0.g, s0.t⟩ rfl
    rw [List.set_set] at S3
    obtain ⟨_, _, e', -, -, -, s3⟩ := S3.fld sv_len (st _) (j := 3) (by omega)
    cases e'
    have S4 := s3 (.bool x.strong) ⟨x, s0.g, s0.t⟩ rfl
    rw [List.set_set] at S4
    exact S4
end Go.Den.Rot
end

section
set_option linter.unusedVariables false
set_option maxRecDepth 100000
namespace Go.Den.Rot
open Go Go.Den Go.Den.Mon
variable {h : Hp} {c : Col} {K : Value → Hp → Prop} {A most : Nat} {sp : List Sp} {fr : List Nat}
theorem evs_get {H : Hp} {b : Nat} {x : Ent} {T : TypeId} (hb : H b = some (.cells (evs x).toArray T (0, 0))) : CellsAt H ⟨b, 0, none⟩ 4 (evs x).toArray := cellsAt_blk hb rfl
theorem put_k0 {b1 : Nat} {x : Ent} (hb1 : h b1 = none) (hk : ∀ h', Step [] h [] h' → K (.tuple #[.int .u64 0, .int .i64 3]) h') : arena_Arena_rot_entry_Put.k0 K h b1 x.owner (str x.txt) (x.tgt : Int) x.strong := by
  unfold arena_Arena_rot_entry_Put.k0
  exact hk _ (Step.put (.inr hb1))
theorem Put_spec {x : Ent} (t : ArAt h c A most sp fr) (w : WF h c)
    (h0 : fr = [] → sp.length = most → ∀ h', Step [] h [] h' → K (.tuple #[.int .u64 0, .int .i64 3]) h')
    (h1 : ∀ i g sp' fr' h' c', placed sp fr x i g sp' fr' → ArAt h' c' A most sp' fr' → Chg (fun r => r.1 = 1) h c h' c' → K (.tuple #[.int .u64 (hd i g : Nat), .int .i64 0]) h') :
    HC P arena_Arena_rot_entry_Put.n #[.pointer (some ⟨A, 0, none⟩), .agg #[.int .i64 x.owner, .string (str x.txt), .int .u64 (x.tgt : Int), .bool x.strong]] h K := by
  obtain ⟨sa, sc, fa, fc, cnt, t⟩ := t
  refine arena_Arena_rot_entry_Put.hc ?_
  unfold arena_Arena_rot_entry_Put
  intro b1 hb1
  refine bcF rfl ?_
  have cz : c b1 = z0 := w.fresh hb1
  have C0 : Chg (fun r => r.1 = 1) h c (h.put b1 (.cells (evs x).toArray T.rot_entry (0, 0))) c := (Chg.refl w).new hb1
  have B0 : (h.put b1 (.cells (evs x).toArray T.rot_entry (0, 0))) b1 = some (.cells (evs x).toArray T.rot_entry (0, 0)) := put_self
  have t0 : ArR (h.put b1 (.cells (evs x).toArray T.rot_entry (0, 0))) c A most sp fr sa sc fa fc cnt := t.keep (Same.put (by rw [cz]; simp))
  have fre0 := t.fre
  have hlen := t.len
  have frl := t.fre.len
  clear t
  have hfin : ∀ {h' c'}, Chg (fun r => r.1 = 1) (h.put b1 (.cells (evs x).toArray T.rot_entry (0, 0))) c h' c' → Chg (fun r => r.1 = 1) h c h' c' := fun q => C0.trans q
  have w0 := C0.wf
  unfold arena_Arena_rot_entry_Put.k5
  rw [show (Obj.cells #[.int .i64 x.owner, .string (str x.txt), .int .u64 (x.tgt : Int), .bool x.strong] T.rot_entry (0, 0)) = .cells (evs x).toArray T.rot_entry (0, 0) from rfl]
  simp only [someD_some, Addr.add_mk, Nat.zero_add]
  refine ⟨_, _, _, by rw [cell_of t0.blk]; rfl, _, _, _, by rw [cell_of t0.blk]; rfl, bcase_intro (fun hc => ?_) fun hc => ?_⟩
  · have hc : 0 < fr.length := by have := of_decide_eq_true hc; omega
    obtain ⟨fr', i, rfl⟩ : ∃ fr' i, fr = fr' ++ [i] := ⟨fr.dropLast, fr.getLast (by intro e; rw [e] at hc; simp at hc), (List.dropLast_concat_getLast _).symm⟩
    have hi : i < sp.length := t0.frok i (by simp)
    have hs : sp[i]? = some sp[i] := List.getElem?_eq_getElem hi
    simp only [List.length_append, List.length_cons, List.length_nil, Nat.zero_add] at frl
    have e1 : IntKind.wrap .i64 (((fr' ++ [i]).length : Int) - 1) = (fr'.length : Int) := wrapN (by simp) (by omega)
    unfold arena_Arena_rot_entry_Put.k1
    rw [show (Obj.cells #[.int .i64 x.owner, .string (str x.txt), .int .u64 (x.tgt : Int), .bool x.strong] T.rot_entry (0, 0)) = .cells (evs x).toArray T.rot_entry (0, 0) from rfl]
    generalize h.put b1 (.cells (evs x).toArray T.rot_entry (0, 0)) = H at B0 t0 hfin w0 ⊢
    simp only [e1, someD_some, Addr.add_mk, Nat.zero_add, Int.toNat_natCast, Nat.mul_one, Nat.sub_zero]
    have fle := t0.free.le_cap
    simp only [List.length_append, List.length_cons, List.length_nil, Nat.zero_add] at fle
    obtain ⟨fb, fo, rfl, hfb, hfcell, -, -⟩ := t0.free.at (j := fr'.length) (by simp [ints])
    have hfcell : H.cell? ⟨fb, fo + fr'.length, none⟩ = some (.int .i64 i) := by rw [hfcell]; simp [ints]
    obtain ⟨b, off, rfl, hb, -, -, -⟩ := t0.spots.fld sv_len hs (j := 0) (by omega)
    refine ⟨_, _, _, by rw [cell_of t0.blk]; rfl, by omega, by simp; omega, ?_⟩
    simp only [someD_some, Addr.add_mk]
    refine ⟨_, hfcell, ?_⟩
    refine ⟨_, _, _, by rw [cell_of t0.blk]; rfl, by omega, by omega, ⟨_, by rw [cell_of t0.blk]; rfl⟩, frozen_of t0.blk, ?_⟩
    rw [offA_zero]
    have nAb : A ≠ b := fun e => by have := t0.col; rw [e, hb] at this; cases this
    have nA1 : b1 ≠ A := fun e => by have := t0.col; rw [← e, cz] at this; cases this
    have nb1 : b1 ≠ b := fun e => by rw [← e, cz] at hb; cases hb
    obtain ⟨h2, hh2⟩ : ∃ h2, h2 = H.setCell ⟨A, 3, none⟩ (.slice (some ⟨fb, fo, none⟩) fr'.length fc) := ⟨_, rfl⟩
    rw [← hh2]
    have B2 : h2 A = some (.cells #[.int .i64 most, .int .u32 1, .slice (some ⟨b, off, none⟩) sp.length sc, .slice (some ⟨fb, fo, none⟩) fr'.length fc, .int .i64 cnt] T.arena_Arena_rot_entry (0, 0)) := by rw [hh2, setCell_blk t0.blk]; rfl
    have C2 : Chg (fun r => r.1 = 1) H c h2 c := by rw [hh2]; exact (Chg.refl w0).set (.inr (by rw [t0.col]))
    have E2 : h2 b1 = some (.cells (evs x).toArray T.rot_entry (0, 0)) := by rw [hh2, setCell_ne nA1]; exact B0
    have S2 : Sl h2 c (1, 1) T.arena_spot_rot_entry 6 (some ⟨b, off, none⟩) sp.length sc (svs sp) := t0.spots.keep (by rw [hh2]; exact Same.set (by rw [t0.col]; simp))
    have F2 : Sl h2 c (1, 2) T.int 1 (some ⟨fb, fo, none⟩) fr'.length fc (ints fr') := by
      refine Sl.keep (Sl_shorter (v := .int .i64 i) ?_) (h := H) (by rw [hh2]; exact Same.set (by rw [t0.col]; simp))
      have := t0.free
      simpa [ints] using this
    refine ⟨_, _, _, by rw [cell_of B2]; rfl, by omega, by omega, ?_⟩
    simp only [someD_some, Addr.add_mk, Int.toNat_natCast, Nat.add_zero]
    obtain ⟨fr4, -, S3⟩ := wr4 S2 hs x
    refine ⟨_, _, _, _, evs_get E2, rfl, evs_cellish x, fr4, ?_⟩
    rw [show (#[.int .i64 x.owner, .string (str x.txt), .int .u64 (x.tgt : Int), .bool x.strong] : Array Value) = (evs x).toArray from rfl]
    have C3 : Chg (fun r => r.1 = 1) H c (h2.setCells ⟨b, off + i * 6, none⟩ (evs x).toArray) c := set4_chg C2 (.inr (by rw [hb]))
    have B3 : (h2.setCells ⟨b, off + i * 6, none⟩ (evs x).toArray) A = some (.cells #[.int .i64 most, .int .u32 1, .slice (some ⟨b, off, none⟩) sp.length sc, .slice (some ⟨fb, fo, none⟩) fr'.length fc, .int .i64 cnt] T.arena_Arena_rot_entry (0, 0)) := by rw [set4_ne nAb, B2]
    have F3 : Sl (h2.setCells ⟨b, off + i * 6, none⟩ (evs x).toArray) c (1, 2) T.int 1 (some ⟨fb, fo, none⟩) fr'.length fc (ints fr') := F2.keep (by
      rw [set4_eq]
      have q : ¬ ((c b) = ((1, 2) : Rg)) := by rw [hb]; simp
      exact (((Same.set (Q := fun r => r = (1, 2)) q).trans (Same.set q)).trans (Same.set q)).trans (Same.set q))
    generalize h2.setCells ⟨b, off + i * 6, none⟩ (evs x).toArray = h3 at C3 B3 F3 S3 ⊢
    have hs3 : (sp.set i ⟨x, sp[i].g, sp[i].t⟩)[i]? = some ⟨x, sp[i].g, sp[i].t⟩ := by simp [hi]
    obtain ⟨_, _, e', -, c5, f5, s5⟩ := S3.fld sv_len hs3 (j := 5) (by omega)
    cases e'
    refine ⟨⟨_, c5⟩, f5, ?_⟩
    have S4 := s5 (.bool Bool.true) ⟨x, sp[i].g, true⟩ rfl
    rw [List.set_set] at S4
    obtain ⟨h4, hh4⟩ : ∃ h4, h4 = h3.setCell ⟨b, off + i * 6 + 5, none⟩ (.bool Bool.true) := ⟨_, rfl⟩
    rw [← hh4] at S4 ⊢
    have B4 : h4 A = some (.cells #[.int .i64 most, .int .u32 1, .slice (some ⟨b, off, none⟩) sp.length sc, .slice (some ⟨fb, fo, none⟩) fr'.length fc, .int .i64 cnt] T.arena_Arena_rot_entry (0, 0)) := by rw [hh4, setCell_ne nAb, B3]
    have C4 : Chg (fun r => r.1 = 1) H c h4 c := by rw [hh4]; exact C3.set (.inr (by rw [hb]))
    have F4 : Sl h4 c (1, 2) T.int 1 (some ⟨fb, fo, none⟩) fr'.length fc (ints fr') := F3.keep (by rw [hh4]; exact Same.set (by rw [hb]; simp))
    refine ⟨_, by rw [cell_of B4]; rfl, ⟨_, by rw [cell_of B4]; rfl⟩, frozen_of B4, ?_⟩
    obtain ⟨h5, hh5⟩ : ∃ h5, h5 = h4.setCell ⟨A, 4, none⟩ (.int .i64 (IntKind.wrap .i64 (cnt + 1))) := ⟨_, rfl⟩
    rw [← hh5]
    have S5 : Sl h5 c (1, 1) T.arena_spot_rot_entry 6 (some ⟨b, off, none⟩) sp.length sc (svs (sp.set i ⟨x, sp[i].g, true⟩)) := S4.keep (by rw [hh5]; exact Same.set (by rw [t0.col]; simp))
    have hs5 : (sp.set i ⟨x, sp[i].g, true⟩)[i]? = some ⟨x, sp[i].g, true⟩ := by simp [hi]
    obtain ⟨_, _, e', -, c4', -, -⟩ := S5.fld sv_len hs5 (j := 4) (by omega)
    cases e'
    refine ⟨_, c4', handle_spec (g := sp[i].g) (by omega) (t0.g sp[i] (List.getElem_mem hi)) ⟨_, rfl, ?_⟩⟩
    have pl : placed sp (fr' ++ [i]) x i sp[i].g (sp.set i ⟨x, sp[i].g, true⟩) fr' := .inr ⟨sp[i], rfl, hs, rfl, rfl⟩
    refine h1 i sp[i].g (sp.set i ⟨x, sp[i].g, true⟩) fr' h5 c pl ⟨some ⟨b, off, none⟩, sc, some ⟨fb, fo, none⟩, fc, IntKind.wrap .i64 (cnt + 1), ?_, t0.col, ?_, F4.keep (by rw [hh5]; exact Same.set (by rw [t0.col]; simp)), ?_, ?_, ?_, fre0.add pl⟩ (hfin (by rw [hh5]; exact C4.set (.inr (by rw [t0.col]))))
    · rw [hh5, setCell_blk B4, List.length_set]; rfl
    · rw [List.length_set]; exact S5
    · intro s hsm
      rcases List.mem_or_eq_of_mem_set hsm with hsm | rfl
      · exact t0.g s hsm
      · show sp[i].g < 4294967296
        exact t0.g sp[i] (List.getElem_mem hi)
    · rw [List.length_set]; exact t0.len
    · intro k hk; rw [List.length_set]; exact t0.frok k (by simp [hk])
  · have hfr : fr = [] := by
      have := of_decide_eq_false hc
      exact List.length_eq_zero_iff.1 (by omega)
    subst hfr
    unfold arena_Arena_rot_entry_Put.k4
    rw [show (Obj.cells #[.int .i64 x.owner, .string (str x.txt), .int .u64 (x.tgt : Int), .bool x.strong] T.rot_entry (0, 0)) = .cells (evs x).toArray T.rot_entry (0, 0) from rfl]
    simp only [someD_some, Addr.add_mk, Nat.zero_add]
    refine ⟨_, by rw [cell_of t0.blk]; rfl, bcase_intro (fun hm => put_k0 hb1 (h0 rfl ?_)) fun hm => ?_⟩
    · have : ((sp.length : Nat) : Int) = (most : Int) := by simpa using hm
      omega
    have hm : sp.length ≠ most := fun e => by rw [e] at hm; simp at hm
    unfold arena_Arena_rot_entry_Put.k3
    rw [show (Obj.cells #[.int .i64 x.owner, .string (str x.txt), .int .u64 (x.tgt : Int), .bool x.strong] T.rot_entry (0, 0)) = .cells (evs x).toArray T.rot_entry (0, 0) from rfl]
    generalize h.put b1 (.cells (evs x).toArray T.rot_entry (0, 0)) = H at B0 t0 hfin w0 ⊢
    simp only [someD_some, Addr.add_mk, Nat.zero_add]
    refine ⟨_, _, _, by rw [cell_of t0.blk]; rfl, _, by rw [cell_of t0.blk]; rfl, fun b0 hb0 => ?_⟩
    refine push_sl (xs := [.int .i64 0, .string (⟨#[]⟩ : ByteArray), .int .u64 0, .bool Bool.false, .int .u32 1, .bool Bool.false]) slSpot t0.spots w0 (by simp) hb0 rfl (by simp [cellish]) (by omega) fun a' cap' h1' c1 g1 g2 => ⟨_, _, _, rfl, ?_⟩
    have g1' : Sl h1' c1 (1, 1) T.arena_spot_rot_entry 6 a' (sp.length + 1) cap' (svs (sp ++ [⟨zE, 1, false⟩])) := by
      rw [show svs (sp ++ [⟨zE, 1, false⟩]) = svs sp ++ [.int .i64 0, .string (⟨#[]⟩ : ByteArray), .int .u64 0, .bool Bool.false, .int .u32 1, .bool Bool.false] from by simp [svs, sv, zE, str]]; exact g1
    have C1 : Chg (fun r => r.1 = 1) H c h1' c1 := g2.weak fun r e => by rw [e]
    obtain ⟨eA, cA⟩ := g2.keep A (by rw [t0.blk]; simp) (by rw [t0.col]; simp)
    have B1 := eA.trans t0.blk
    have colA : c1 A = (1, 0) := cA.trans t0.col
    obtain ⟨E1, cz1⟩ := C1.old (by simp) cz B0
    have F1 : Sl h1' c1 (1, 2) T.int 1 fa ([] : List Nat).length fc (ints []) := t0.free.keep (g2.same w0 fun r e => by rw [e]; simp)
    unfold arena_Arena_rot_entry_Put.k2
    simp only [someD_some, Addr.add_mk, Nat.zero_add]
    refine ⟨⟨_, by rw [cell_of B1]; rfl⟩, frozen_of B1, ?_⟩
    have nA1 : b1 ≠ A := fun e => by rw [← e, cz1] at colA; cases colA
    obtain ⟨h2, hh2⟩ : ∃ h2, h2 = h1'.setCell ⟨A, 2, none⟩ (.slice a' (sp.length + 1) cap') := ⟨_, rfl⟩
    rw [← hh2]
    have B2 : h2 A = some (.cells #[.int .i64 most, .int .u32 1, .slice a' (sp.length + 1) cap', .slice fa ([] : List Nat).length fc, .int .i64 cnt] T.arena_Arena_rot_entry (0, 0)) := by rw [hh2, setCell_blk B1]; rfl
    have E2 : h2 b1 = some (.cells (evs x).toArray T.rot_entry (0, 0)) := by rw [hh2, setCell_ne nA1]; exact E1
    have C2 : Chg (fun r => r.1 = 1) H c h2 c1 := by rw [hh2]; exact C1.set (.inr (by rw [colA]))
    have S2 : Sl h2 c1 (1, 1) T.arena_spot_rot_entry 6 a' (sp.length + 1) cap' (svs (sp ++ [⟨zE, 1, false⟩])) := g1'.keep (by rw [hh2]; exact Same.set (by rw [colA]; simp))
    have F2 : Sl h2 c1 (1, 2) T.int 1 fa ([] : List Nat).length fc (ints []) := F1.keep (by rw [hh2]; exact Same.set (by rw [colA]; simp))
    refine ⟨_, _, _, by rw [cell_of B2]; rfl, by omega, by simp; omega, ?_⟩
    simp only [Int.toNat_natCast]
    have hs : ∀ y : Sp, (sp ++ [y])[sp.length]? = some y := fun y => by simp
    have st : ∀ (y y' : Sp), (sp ++ [y]).set sp.length y' = sp ++ [y'] := fun y y' => by simp
    obtain ⟨b, off, rfl, hb, -, -, -⟩ := S2.fld sv_len (hs _) (j := 0) (by omega)
    have nAb : A ≠ b := fun e => by rw [e, hb] at colA; cases colA
    simp only [someD_some, Addr.add_mk, Nat.add_zero]
    obtain ⟨fr4, -, S3⟩ := wr4 S2 (hs _) x
    rw [st] at S3
    refine ⟨_, _, _, _, evs_get E2, rfl, evs_cellish x, fr4, ?_⟩
    rw [show (#[.int .i64 x.owner, .string (str x.txt), .int .u64 (x.tgt : Int), .bool x.strong] : Array Value) = (evs x).toArray from rfl]
    have C3 : Chg (fun r => r.1 = 1) H c (h2.setCells ⟨b, off + sp.length * 6, none⟩ (evs x).toArray) c1 := set4_chg C2 (.inr (by rw [hb]))
    have B3 : (h2.setCells ⟨b, off + sp.length * 6, none⟩ (evs x).toArray) A = some (.cells #[.int .i64 most, .int .u32 1, .slice (some ⟨b, off, none⟩) (sp.length + 1) cap', .slice fa ([] : List Nat).length fc, .int .i64 cnt] T.arena_Arena_rot_entry (0, 0)) := by rw [set4_ne nAb, B2]
    have F3 : Sl (h2.setCells ⟨b, off + sp.length * 6, none⟩ (evs x).toArray) c1 (1, 2) T.int 1 fa ([] : List Nat).length fc (ints []) := F2.keep (by
      rw [set4_eq]
      have q : ¬ ((c1 b) = ((1, 2) : Rg)) := by rw [hb]; simp
      exact (((Same.set (Q := fun r => r = (1, 2)) q).trans (Same.set q)).trans (Same.set q)).trans (Same.set q))
    generalize h2.setCells ⟨b, off + sp.length * 6, none⟩ (evs x).toArray = h3 at C3 B3 F3 S3 ⊢
    obtain ⟨_, _, e', -, c5, f5, s5⟩ := S3.fld sv_len (hs _) (j := 5) (by omega)
    cases e'
    refine ⟨⟨_, c5⟩, f5, ?_⟩
    have S4 := s5 (.bool Bool.true) ⟨x, 1, true⟩ rfl
    rw [st] at S4
    obtain ⟨h4, hh4⟩ : ∃ h4, h4 = h3.setCell ⟨b, off + sp.length * 6 + 5, none⟩ (.bool Bool.true) := ⟨_, rfl⟩
    rw [← hh4] at S4 ⊢
    have B4 : h4 A = some (.cells #[.int .i64 most, .int .u32 1, .slice (some ⟨b, off, none⟩) (sp.length + 1) cap', .slice fa ([] : List Nat).length fc, .int .i64 cnt] T.arena_Arena_rot_entry (0, 0)) := by rw [hh4, setCell_ne nAb, B3]
    have C4 : Chg (fun r => r.1 = 1) H c h4 c1 := by rw [hh4]; exact C3.set (.inr (by rw [hb]))
    have F4 : Sl h4 c1 (1, 2) T.int 1 fa ([] : List Nat).length fc (ints []) := F3.keep (by rw [hh4]; exact Same.set (by rw [hb]; simp))
    refine ⟨_, by rw [cell_of B4]; rfl, ⟨_, by rw [cell_of B4]; rfl⟩, frozen_of B4, ?_⟩
    obtain ⟨h5, hh5⟩ : ∃ h5, h5 = h4.setCell ⟨A, 4, none⟩ (.int .i64 (IntKind.wrap .i64 (cnt + 1))) := ⟨_, rfl⟩
    rw [← hh5]
    have S5 : Sl h5 c1 (1, 1) T.arena_spot_rot_entry 6 (some ⟨b, off, none⟩) (sp.length + 1) cap' (svs (sp ++ [⟨x, 1, true⟩])) := S4.keep (by rw [hh5]; exact Same.set (by rw [colA]; simp))
    obtain ⟨_, _, e', -, c4', -, -⟩ := S5.fld sv_len (hs _) (j := 4) (by omega)
    cases e'
    refine ⟨_, c4', handle_spec (g := 1) (by omega) (by omega) ⟨_, rfl, ?_⟩⟩
    have pl : placed sp [] x sp.length 1 (sp ++ [⟨x, 1, true⟩]) [] := .inl ⟨rfl, rfl, rfl, rfl, rfl⟩
    refine h1 sp.length 1 (sp ++ [⟨x, 1, true⟩]) [] h5 c1 pl ⟨some ⟨b, off, none⟩, cap', fa, fc, IntKind.wrap .i64 (cnt + 1), ?_, colA, ?_, F4.keep (by rw [hh5]; exact Same.set (by rw [colA]; simp)), ?_, ?_, by simp, fre0.add pl⟩ (hfin (by rw [hh5]; exact C4.set (.inr (by rw [colA]))))
    · rw [hh5, setCell_blk B4]; simp
    · rw [List.length_append]; exact S5
    · intro s hsm
      rcases List.mem_append.1 hsm with hsm | hsm
      · exact t0.g s hsm
      · simp at hsm; subst hsm; show 1 < 4294967296; omega
    · simp; omega
end Go.Den.Rot
end

section
set_option linter.unusedVariables false
set_option maxRecDepth 100000
namespace Go.Den.Rot
open Go Go.Den Go.Den.Mon
variable {h : Hp} {c : Col} {K : Value → Hp → Prop} {A most : Nat} {sp : List Sp} {fr : List Nat}
abbrev oE (x : Ent) : Obj := .cells (evs x).toArray T.rot_entry (0, 0)
theorem zE_obj : Obj.cells #[.int .i64 0, .string (⟨#[]⟩ : ByteArray), .int .u64 0, .bool Bool.false] T.rot_entry (0, 0) = oE zE := rfl
theorem step_put0 {h' : Hp} {b0 : Nat} {X : Obj} (hb0 : h b0 = none) (s : Step [] h [] h') : Step [] h [] (h'.put b0 X) := by
  refine ⟨fun q hq _ => ?_, by simp, fun q hq => ?_⟩
  · rw [put_ne fun e => hq (by rw [e]; exact hb0)]
    exact s.keep q hq (by simp)
  · unfold Hp.put; split
    · simp
    · exact s.dom q hq
theorem free4 {H : Hp} {b0 : Nat} {y : Ent} (hb : H b0 = some (oE y)) : Free H ⟨b0, 0, none⟩ 4 := free_blk hb rfl
end Go.Den.Rot
end

section
set_option linter.unusedVariables false
set_option maxRecDepth 100000
namespace Go.Den.Rot
open Go Go.Den Go.Den.Mon
variable {h : Hp} {c : Col} {K : Value → Hp → Prop} {A most : Nat} {sp : List Sp} {fr : List Nat}
theorem call_AAll_1 : callable P arena_Arena_rot_entry_All_1.n = true := by kernel_rfl
theorem AAll_1_spec {fb lb : Nat} {S : Rg → Prop} {I : Nat → Hp → Col → Prop} (t : ArAt h c A most sp fr) (w : WF h c) (hS : ¬ S z0)
    (hf : h.cell? ⟨fb, 0, none⟩ = some (.pointer (some ⟨A, 0, none⟩))) (h0 : ∀ h', Step [] h [] h' → I 0 h' c) (hw : ∀ j h' c', I j h' c' → WF h' c')
    (hst : ∀ j h' c' b o, h' b = none → I j h' c' → I j (h'.put b o) c')
    (hy : ∀ j i s h' c', (live 0 sp)[j]? = some (i, s) → I j h' c' → HY P lb #[.int .u64 (hd i s.g : Nat), .agg (evs s.x).toArray] h' fun v h'' =>
      ∃ c'', Chg S h' c' h'' c'' ∧ ((v = .bool true ∧ I (j + 1) h'' c'') ∨ (v = .bool false ∧ K (.tuple #[]) h'')))
    (hk : ∀ h' c', I (live 0 sp).length h' c' → K (.tuple #[]) h') : HC P arena_Arena_rot_entry_All_1.n #[.func (.yield lb) #[] #[], .pointer (some ⟨fb, 0, none⟩)] h K := by
  obtain ⟨sa, sc, fa, fc, cnt, t⟩ := t
  have hlen := t.len
  refine arena_Arena_rot_entry_All_1.hc ?_
  unfold arena_Arena_rot_entry_All_1
  simp only [someD_some]
  refine ⟨_, hf, bcF rfl ?_⟩
  unfold arena_Arena_rot_entry_All_1.k8
  intro b0 hb0
  have nfb : fb ≠ b0 := fun e => by
    have := cell_some_block hf
    rw [e] at this; exact this hb0
  have nA : A ≠ b0 := fun e => by have := t.blk; rw [e, hb0] at this; cases this
  simp only [someD_some]
  have hf1 : (h.put b0 (.cells #[] T.arena_spot_rot_entry (0, 0))).cell? ⟨fb, 0, none⟩ = some (.pointer (some ⟨A, 0, none⟩)) := by rw [← hf]; exact cell_block rfl (put_ne nfb)
  have B0 : (h.put b0 (.cells #[] T.arena_spot_rot_entry (0, 0))) A = some (.cells #[.int .i64 most, .int .u32 1, .slice sa sp.length sc, .slice fa fr.length fc, .int .i64 cnt] T.arena_Arena_rot_entry (0, 0)) := by rw [put_ne nA, t.blk]
  refine ⟨_, hf1, ?_⟩
  simp only [someD_some, Addr.add_mk, Nat.zero_add]
  refine ⟨_, _, _, by rw [cell_of B0]; rfl, ?_⟩
  have src : SrcAt (h.put b0 (.cells #[] T.arena_spot_rot_entry (0, 0))) 6 (.slice sa sp.length sc) sp.length (svs sp) := by
    refine (t.spots.keep (Same.put (c := c) (t := b0) ?_)).src
    rw [w.fresh hb0]; simp
  refine append_wp (Z := fun _ => True) (cs := svs sp) slSpot slSpot.1 (.some (pre := []) (vs := []) (rest := []) (post := []) (by rw [put_self]; simp) rfl (by simp) (by simp) (Nat.le_refl _) (by simp)) (fun _ _ _ _ _ _ => trivial) src (fm_cellish sv_cellish) (by omega) ?_
  intro a' cap' o' h1 g1 _ g2
  rw [Nat.zero_add] at g1
  simp only [Nat.zero_add, List.nil_append] at g1 ⊢
  refine ⟨_, _, _, rfl, ?_⟩
  have st1 : Step [] h [] h1 := ((Step.new (o := []) hb0).trans g2).forget0
  have ho : ∀ k ∈ o', h k = none := fun k hk => by
    rcases ((Step.new (o := []) hb0).trans g2).own k hk with h | h
    · simp at h
    · exact h
  have hoz : ∀ k ∈ o', c k = z0 := fun k hk => w.fresh (ho k hk)
  refine ⟨fun vs hh => ∃ (i : Nat) (c' : Col), vs = [.int .i64 (i : Int)] ∧ i ≤ sp.length ∧ SlAt hh T.arena_spot_rot_entry 6 (fun _ => True) a' sp.length cap' (svs sp) o' ∧ (∀ k ∈ o', c' k = z0) ∧ I (live 0 (sp.take i)).length hh c',
    fun vs _ => match vs with | [.int _ i] => sp.length - i.toNat | _ => 0, ?_⟩
  unfold arena_Arena_rot_entry_All_1.k7
  refine ⟨⟨0, c, rfl, by omega, g1, hoz, h0 _ st1⟩, ?_⟩
  rintro h2 n2 ⟨i, c2, he, hi, s2, o2, hI⟩
  cases he
  refine bcase_intro (fun hc => ?_) fun hc => ?_
  · have hc : i < sp.length := by have := of_decide_eq_true hc; omega
    have hs : sp[i]? = some sp[i] := List.getElem?_eq_getElem hc
    have etk : sp.take (i + 1) = sp.take i ++ [sp[i]] := by rw [List.take_add_one, hs]; rfl
    have etl : (sp.take i).length = i := by simp; omega
    have el : live 0 (sp.take (i + 1)) = live 0 (sp.take i) ++ (if sp[i].t = true then [(i, sp[i])] else []) := by
      rw [etk, live_app, etl, Nat.zero_add, live, live]
    have wi : IntKind.wrap .i64 ((i : Int) + 1) = ((i + 1 : Nat) : Int) := wrapN (by simp) (by omega)
    have ms : sp.length - ((i + 1 : Nat) : Int).toNat < sp.length - (i : Int).toNat := by omega
    unfold arena_Arena_rot_entry_All_1.k6
    obtain ⟨p, rfl, hp⟩ := s2.src.part hc
    rw [show ((svs sp).drop (i * 6)).take 6 = sv sp[i] from fm_part sv_len hs] at hp
    simp only [someD_some, Int.toNat_natCast]
    refine ⟨by omega, by omega, _, _, _, _, _, _, hp, fun b2 hb2 => ⟨rfl, fun v hv => sv_cellish sp[i] v hv, free_new (z := [.int .i64 0, .string (⟨#[]⟩ : ByteArray), .int .u64 0, .bool Bool.false, .int .u32 0, .bool Bool.false]) rfl, ?_⟩⟩
    have e2 : (h2.put b2 (.cells #[.int .i64 0, .string (⟨#[]⟩ : ByteArray), .int .u64 0, .bool Bool.false, .int .u32 0, .bool Bool.false] T.arena_spot_rot_entry (0, 0))).setCells ⟨b2, 0, none⟩ #[.int .i64 sp[i].x.owner, .string (str sp[i].x.txt), .int .u64 (sp[i].x.tgt : Int), .bool sp[i].x.strong, .int .u32 (sp[i].g : Int), .bool sp[i].t] = h2.put b2 (.cells (sv sp[i]).toArray T.arena_spot_rot_entry (0, 0)) :=
      setCells_new (z := [.int .i64 0, .string (⟨#[]⟩ : ByteArray), .int .u64 0, .bool Bool.false, .int .u32 0, .bool Bool.false]) (cs := sv sp[i]) rfl
    unfold arena_Arena_rot_entry_All_1.k5 arena_Arena_rot_entry_All_1.k4
    rw [e2]
    obtain ⟨h3, hh3⟩ : ∃ h3, h3 = h2.put b2 (.cells (sv sp[i]).toArray T.arena_spot_rot_entry (0, 0)) := ⟨_, rfl⟩
    rw [← hh3]
    have B3 : h3 b2 = some (.cells (sv sp[i]).toArray T.arena_spot_rot_entry (0, 0)) := by rw [hh3, put_self]
    have s3 : SlAt h3 T.arena_spot_rot_entry 6 (fun _ => True) (some p) sp.length cap' (svs sp) o' := s2.keep fun k hk => by
      rw [hh3]; exact put_ne fun e => s2.mem k hk (e ▸ hb2)
    have I3 : I (live 0 (sp.take i)).length h3 c2 := by rw [hh3]; exact hst _ _ _ _ _ hb2 hI
    have C4 : CellsAt h3 ⟨b2, 0, none⟩ 4 (evs sp[i].x).toArray := by
      refine ⟨rfl, fun j v hv => ?_⟩
      have hj : j < 4 := (Array.getElem?_eq_some_iff.1 hv).1
      rw [Addr.add_mk, cell_of B3, ← hv]
      match j, hj with
      | 0, _ => rfl
      | 1, _ => rfl
      | 2, _ => rfl
      | 3, _ => rfl
    simp only [Addr.add_mk, Nat.zero_add, Nat.add_zero]
    refine ⟨_, by rw [cell_of B3]; rfl, bcase_intro (fun ht => ?_) fun ht => ?_⟩
    · have hgo : HY P lb #[.int .u64 (hd i sp[i].g : Nat), .agg (evs sp[i].x).toArray] h3 (fun v3 h3' => (∃ b6 : Bool, (v3 = (.bool b6)) ∧ (arena_Arena_rot_entry_All_1.k1 b6 K h3' (fun vs hh => ∃ (i : Nat) (c' : Col), vs = [.int .i64 (i : Int)] ∧ i ≤ sp.length ∧ SlAt hh T.arena_spot_rot_entry 6 (fun _ => True) (some p) sp.length cap' (svs sp) o' ∧ (∀ k ∈ o', c' k = z0) ∧ I (live 0 (sp.take i)).length hh c')
          (i : Int) (fun vs _ => match vs with | [.int _ i] => sp.length - i.toNat | _ => 0) h2))) := by
        have hj : (live 0 sp)[(live 0 (sp.take i)).length]? = some (i, sp[i]) := by
          have e : live 0 sp = live 0 (sp.take (i + 1)) ++ live (0 + (sp.take (i + 1)).length) (sp.drop (i + 1)) := by rw [← live_app, List.take_append_drop]
          rw [e, el, if_pos ht]; simp
        refine (hy _ i sp[i] h3 c2 hj I3).mono ?_
        rintro v h4 ⟨c4, C4, ⟨rfl, I4⟩ | ⟨rfl, hK⟩⟩
        · refine ⟨_, rfl, ?_⟩
          unfold arena_Arena_rot_entry_All_1.k1
          refine bcF rfl ?_
          unfold arena_Arena_rot_entry_All_1.k0
          rw [wi]
          have keep : ∀ k ∈ o', h4 k = h3 k ∧ c4 k = z0 := fun k hk => by
            cases hx : h3 k with
            | none => exact absurd hx (s3.mem k hk)
            | some x => exact C4.old hS (o2 k hk) hx
          refine ⟨⟨i + 1, c4, rfl, by omega, s3.keep fun k hk => (keep k hk).1, fun k hk => (keep k hk).2, ?_⟩, ms⟩
          rw [el, if_pos ht, List.length_append]; exact I4
        · refine ⟨_, rfl, ?_⟩
          unfold arena_Arena_rot_entry_All_1.k1
          exact bcT rfl hK
      have hi2 : i < 4294967295 := by omega
      have hg2 : sp[i].g < 4294967296 := t.g sp[i] (List.getElem_mem hc)
      refine ⟨_, by rw [cell_of B3]; rfl, handle_spec hi2 hg2 ⟨_, rfl, sp[i].x.owner, str sp[i].x.txt, (sp[i].x.tgt : Int), sp[i].x.strong, ?_⟩, _, _, _, _, C4, handle_spec hi2 hg2 ⟨_, rfl, ?_⟩⟩
      · unfold arena_Arena_rot_entry_All_1.k2
        exact ⟨C4, hgo⟩
      · unfold arena_Arena_rot_entry_All_1.k3
        exact hgo
    · rw [wi]
      have : live 0 (sp.take (i + 1)) = live 0 (sp.take i) := by rw [el, if_neg (by simp [ht]), List.append_nil]
      have nx : (∃ (i' : Nat) (c' : Col), [Value.int .i64 ((i + 1 : Nat) : Int)] = [.int .i64 (i' : Int)] ∧ i' ≤ sp.length ∧ SlAt h3 T.arena_spot_rot_entry 6 (fun _ => True) (some p) sp.length cap' (svs sp) o' ∧ (∀ k ∈ o', c' k = z0) ∧ I (live 0 (sp.take i')).length h3 c') :=
        ⟨i + 1, c2, rfl, by omega, s3, o2, by rw [this]; exact I3⟩
      exact ⟨⟨nx, ms⟩, nx, ms⟩
  · have hc : i = sp.length := by have := of_decide_eq_false hc; omega
    subst hc
    rw [List.take_length] at hI
    exact hk _ _ hI
/-- Whoever goes over all and changes no more than blocks of its own. -/
theorem AAll_scan {fb lb : Nat} {D : List Nat} {I : Nat → Hp → Prop} (t : ArAt h c A most sp fr) (w : WF h c) (hD : ∀ k ∈ D, c k = z0 ∧ h k ≠ none)
    (hf : h.cell? ⟨fb, 0, none⟩ = some (.pointer (some ⟨A, 0, none⟩))) (h0 : ∀ h', Step [] h [] h' → I 0 h') (hdom : ∀ j h', I j h' → ∀ k, h k ≠ none → h' k ≠ none)
    (hst : ∀ j h' b o, h' b = none → I j h' → I j (h'.put b o))
    (hy : ∀ j i s h', (live 0 sp)[j]? = some (i, s) → I j h' → HY P lb #[.int .u64 (hd i s.g : Nat), .agg (evs s.x).toArray] h' fun v h'' => Step D h' D h'' ∧ ((v = .bool true ∧ I (j + 1) h'') ∨ (v = .bool false ∧ K (.tuple #[]) h'')))
    (hk : ∀ h', I (live 0 sp).length h' → K (.tuple #[]) h') : HC P arena_Arena_rot_entry_All_1.n #[.func (.yield lb) #[] #[], .pointer (some ⟨fb, 0, none⟩)] h K := by
  obtain ⟨c2, hc2⟩ : ∃ c2 : Col, c2 = fun k => if k ∈ D then (8, 9) else c k := ⟨_, rfl⟩
  have q : ∀ k ∈ D, c2 k = (8, 9) := fun k hk => by rw [hc2]; simp [hk]
  have nq : ∀ k, k ∉ D → c2 k = c k := fun k hk => by rw [hc2]; simp [hk]
  have wf : ∀ h', (∀ k, h k ≠ none → h' k ≠ none) → WF h' c2 := fun h' hd k hk => by
    by_cases e : k ∈ D
    · exact hd k (hD k e).2
    · rw [nq k e] at hk; exact hd k (w k hk)
  refine AAll_1_spec (c := c2) (S := fun r => r = (8, 9)) (I := fun j h' c' => c' = c2 ∧ I j h') (t.keep fun k hk => ⟨rfl, nq k fun e => by rw [(hD k e).1] at hk; simp at hk⟩) (wf h fun _ h => h) (by simp) hf (fun h' s => ⟨rfl, h0 h' s⟩) (fun j h' c' hi => by rw [hi.1]; exact wf h' (hdom j h' hi.2))
    (fun j h' c' b o hb hi => ⟨hi.1, hst j h' b o hb hi.2⟩) (fun j i s h' c' hj hi => ?_) fun h' c' hi => hk h' hi.2
  obtain ⟨rfl, hi⟩ := hi
  refine (hy j i s h' hj hi).mono ?_
  rintro v h'' ⟨st, hv⟩
  have C := Chg.of_same (r := (8, 9)) st (wf h' (hdom j h' hi)) q
  exact ⟨c', C, hv.imp (fun ⟨a, b⟩ => ⟨a, rfl, b⟩) fun x => x⟩
end Go.Den.Rot
end

section
set_option linter.unusedVariables false
set_option maxRecDepth 100000
namespace Go.Den.Mon
open Go Go.Den

noncomputable section

def rot_New.k0 (h0 : Hp) (K : Value → Hp → Prop) (a0 : Option Addr) : Prop :=
 (∀ b0 : Nat, ((h0 b0) = none → K (.tuple #[.pointer (some ⟨b0, 0, none⟩), .int .i64 0]) (h0.put b0 (.cells #[.pointer a0] T.rot_Table (0, 0)))))
def rot_New.k1 (n1 : Int) (K : Value → Hp → Prop) (h0 : Hp) (a0 : Option Addr) : Prop :=
 bcase ((n1 != 0))
 (K (.tuple #[.pointer none, .int .i64 n1]) h0)
 ((rot_New.k0 h0 K a0))
def rot_New (n0 : Int) (K : Value → Hp → Prop) (h : Hp) : Prop :=
 HC P arena_New_rot_entry.n #[.int .i64 n0, .int .u32 1] h (fun v0 h0 => (∃ a0 : Option Addr, (∃ n1 : Int, (v0 = (.tuple #[.pointer a0, .int .i64 n1])) ∧ (rot_New.k1 n1 K h0 a0))))
theorem rot_New.hc {n0 : Int} {K : Value → Hp → Prop} {h : Hp} (hh : rot_New n0 K h) : HC P rot_New.n #[.int .i64 n0] h K :=
  HC_of_den (fn := Go.Proofs.Tryz.f5) (args := [.int .i64 n0]) Go.Proofs.Tryz.func5 rfl (Nat.le_of_ble_eq_true (by kernel_rfl)) (den_cast hh (by kernel_rfl))

def rot_name.k0 (K : Value → Hp → Prop) (h0 : Hp) (b1 : Nat) (cs2 : Array Value) : Prop :=
 K (.tuple #[.string (⟨#[]⟩ : ByteArray), .int .i64 5]) ((h0.put b1 (.cells #[.int .i64 0, .int .u8 0, .int .u8 0, .int .u8 0, .int .u8 0, .int .u8 0, .int .u8 0, .int .u8 0, .int .u8 0, .int .u8 0, .int .u8 0, .int .u8 0, .int .u8 0, .int .u8 0, .int .u8 0, .int .u8 0, .int .u8 0, .string (⟨#[]⟩ : ByteArray), .int .u64 0, .slice none 0 0] T.api_Moniker (0, 0))).setCells ⟨b1, 0, none⟩ cs2)
def rot_name.k1 (h0 : Hp) (b1 : Nat) (cs2 : Array Value) (K : Value → Hp → Prop) : Prop :=
 (∃ cs3 : Array Value, (CellsAt ((h0.put b1 (.cells #[.int .i64 0, .int .u8 0, .int .u8 0, .int .u8 0, .int .u8 0, .int .u8 0, .int .u8 0, .int .u8 0, .int .u8 0, .int .u8 0, .int .u8 0, .int .u8 0, .int .u8 0, .int .u8 0, .int .u8 0, .int .u8 0, .int .u8 0, .string (⟨#[]⟩ : ByteArray), .int .u64 0, .slice none 0 0] T.api_Moniker (0, 0))).setCells ⟨b1, 0, none⟩ cs2) ⟨b1, 0, none⟩ 20 cs3) ∧ HC P moniker_Print.n #[.agg cs3] ((h0.put b1 (.cells #[.int .i64 0, .int .u8 0, .int .u8 0, .int .u8 0, .int .u8 0, .int .u8 0, .int .u8 0, .int .u8 0, .int .u8 0, .int .u8 0, .int .u8 0, .int .u8 0, .int .u8 0, .int .u8 0, .int .u8 0, .int .u8 0, .int .u8 0, .string (⟨#[]⟩ : ByteArray), .int .u64 0, .slice none 0 0] T.api_Moniker (0, 0))).setCells ⟨b1, 0, none⟩ cs2) (fun v2 h1 => (∃ s0 : ByteArray, (∃ n1 : Int, (v2 = (.tuple #[.string s0, .int .i64 n1])) ∧ K (.tuple #[.string s0, .int .i64 n1]) h1))))
def rot_name.k2 (h0 : Hp) (cs2 : Array Value) (n0 : Int) (K : Value → Hp → Prop) : Prop :=
 (∀ b1 : Nat, ((h0 b1) = none → (cs2.size = 20) ∧ (∀ v1 : Value, (v1 ∈ (Array.toList cs2 : List Value) → (Den.cellish v1) = Bool.true)) ∧ (Free (h0.put b1 (.cells #[.int .i64 0, .int .u8 0, .int .u8 0, .int .u8 0, .int .u8 0, .int .u8 0, .int .u8 0, .int .u8 0, .int .u8 0, .int .u8 0, .int .u8 0, .int .u8 0, .int .u8 0, .int .u8 0, .int .u8 0, .int .u8 0, .int .u8 0, .string (⟨#[]⟩ : ByteArray), .int .u64 0, .slice none 0 0] T.api_Moniker (0, 0))) ⟨b1, 0, none⟩ 20) ∧ bcase ((n0 != 0))
 ((rot_name.k0 K h0 b1 cs2))
 ((rot_name.k1 h0 b1 cs2 K))))
def rot_name (cs0 : Array Value) (K : Value → Hp → Prop) (h : Hp) : Prop :=
 (∀ b0 : Nat, ((h b0) = none → (∃ cs1 : Array Value, (CellsAt (h.put b0 (.cells cs0 T.api_Moniker (0, 0))) ⟨b0, 0, none⟩ 20 cs1) ∧ HC P moniker_Reduce.n #[.agg cs1] (h.put b0 (.cells cs0 T.api_Moniker (0, 0))) (fun v0 h0 => (∃ cs2 : Array Value, (∃ n0 : Int, (v0 = (.tuple #[.agg cs2, .int .i64 n0])) ∧ (rot_name.k2 h0 cs2 n0 K)))))))
theorem rot_name.hc {cs0 : Array Value} {K : Value → Hp → Prop} {h : Hp} (hh : rot_name cs0 K h) : HC P rot_name.n #[.agg cs0] h K :=
  HC_of_den (fn := Go.Proofs.Tryz.f31) (args := [.agg cs0]) Go.Proofs.Tryz.func31 rfl (Nat.le_of_ble_eq_true (by kernel_rfl)) (den_cast hh (by kernel_rfl))

def rot_Table_find.k0 (h1 : Hp) (b4 : Nat) (cs0 : Array Value) (l0 : Nat) (R0 : Rec) (b1 : Nat) (n0 : Int) (b2 : Nat) (b3 : Nat) (K0 : Value → Hp → Prop) : Prop :=
 (∃ n1 : Int, (∃ s3 : ByteArray, (∃ n2 : Int, (∃ b5 : Bool, (CellsAt (((h1.put b4 (.cells #[.int .i64 0, .string (⟨#[]⟩ : ByteArray), .int .u64 0, .bool Bool.false] T.rot_entry (0, 0))).setCells ⟨b4, 0, none⟩ cs0).put l0 R0.busy) ⟨b4, 0, none⟩ 4 #[.int .i64 n1, .string s3, .int .u64 n2, .bool b5]) ∧ (∃ u0 : Value, ((((h1.put b4 (.cells #[.int .i64 0, .string (⟨#[]⟩ : ByteArray), .int .u64 0, .bool Bool.false] T.rot_entry (0, 0))).setCells ⟨b4, 0, none⟩ cs0).put l0 R0.busy).cell? ⟨b1, 0, none⟩) = (some u0)) ∧ (((((h1.put b4 (.cells #[.int .i64 0, .string (⟨#[]⟩ : ByteArray), .int .u64 0, .bool Bool.false] T.rot_entry (0, 0))).setCells ⟨b4, 0, none⟩ cs0).put l0 R0.busy).frozen? ⟨b1, 0, none⟩) = Bool.false) ∧ (∃ n3 : Int, (∃ s4 : ByteArray, (∃ n4 : Int, (∃ b6 : Bool, (CellsAt ((((h1.put b4 (.cells #[.int .i64 0, .string (⟨#[]⟩ : ByteArray), .int .u64 0, .bool Bool.false] T.rot_entry (0, 0))).setCells ⟨b4, 0, none⟩ cs0).put l0 R0.busy).setCell ⟨b1, 0, none⟩ (.int .u64 n0)) ⟨b4, 0, none⟩ 4 #[.int .i64 n3, .string s4, .int .u64 n4, .bool b6]) ∧ (.agg #[.int .i64 n3, .string s4, .int .u64 n4, .bool b6] : Value) = (.agg #[.int .i64 n1, .string s3, .int .u64 n2, .bool b5]))))) ∧ (((#[.int .i64 n1, .string s3, .int .u64 n2, .bool b5] : Array Value).size) = 4) ∧ (∀ v2 : Value, (v2 ∈ ([.int .i64 n1, .string s3, .int .u64 n2, .bool b5] : List Value) → (Den.cellish v2) = Bool.true)) ∧ (Free ((((h1.put b4 (.cells #[.int .i64 0, .string (⟨#[]⟩ : ByteArray), .int .u64 0, .bool Bool.false] T.rot_entry (0, 0))).setCells ⟨b4, 0, none⟩ cs0).put l0 R0.busy).setCell ⟨b1, 0, none⟩ (.int .u64 n0)) ⟨b2, 0, none⟩ 4) ∧ (∃ u1 : Value, ((((((h1.put b4 (.cells #[.int .i64 0, .string (⟨#[]⟩ : ByteArray), .int .u64 0, .bool Bool.false] T.rot_entry (0, 0))).setCells ⟨b4, 0, none⟩ cs0).put l0 R0.busy).setCell ⟨b1, 0, none⟩ (.int .u64 n0)).setCells ⟨b2, 0, none⟩ #[.int .i64 n1, .string s3, .int .u64 n2, .bool b5]).cell? ⟨b3, 0, none⟩) = (some u1)) ∧ (((((((h1.put b4 (.cells #[.int .i64 0, .string (⟨#[]⟩ : ByteArray), .int .u64 0, .bool Bool.false] T.rot_entry (0, 0))).setCells ⟨b4, 0, none⟩ cs0).put l0 R0.busy).setCell ⟨b1, 0, none⟩ (.int .u64 n0)).setCells ⟨b2, 0, none⟩ #[.int .i64 n1, .string s3, .int .u64 n2, .bool b5]).frozen? ⟨b3, 0, none⟩) = Bool.false) ∧ ((((((((h1.put b4 (.cells #[.int .i64 0, .string (⟨#[]⟩ : ByteArray), .int .u64 0, .bool Bool.false] T.rot_entry (0, 0))).setCells ⟨b4, 0, none⟩ cs0).put l0 R0.busy).setCell ⟨b1, 0, none⟩ (.int .u64 n0)).setCells ⟨b2, 0, none⟩ #[.int .i64 n1, .string s3, .int .u64 n2, .bool b5]).setCell ⟨b3, 0, none⟩ (.bool Bool.true)) l0) = (some R0.busy)) ∧ K0 (.bool Bool.false) (((((((h1.put b4 (.cells #[.int .i64 0, .string (⟨#[]⟩ : ByteArray), .int .u64 0, .bool Bool.false] T.rot_entry (0, 0))).setCells ⟨b4, 0, none⟩ cs0).put l0 R0.busy).setCell ⟨b1, 0, none⟩ (.int .u64 n0)).setCells ⟨b2, 0, none⟩ #[.int .i64 n1, .string s3, .int .u64 n2, .bool b5]).setCell ⟨b3, 0, none⟩ (.bool Bool.true)).put l0 (R0.done .ret))))))
def rot_Table_find.k1 (h1 : Hp) (b4 : Nat) (cs0 : Array Value) (l0 : Nat) (R0 : Rec) (K0 : Value → Hp → Prop) : Prop :=
 (((((h1.put b4 (.cells #[.int .i64 0, .string (⟨#[]⟩ : ByteArray), .int .u64 0, .bool Bool.false] T.rot_entry (0, 0))).setCells ⟨b4, 0, none⟩ cs0).put l0 R0.busy) l0) = (some R0.busy)) ∧ K0 (.bool Bool.true) ((((h1.put b4 (.cells #[.int .i64 0, .string (⟨#[]⟩ : ByteArray), .int .u64 0, .bool Bool.false] T.rot_entry (0, 0))).setCells ⟨b4, 0, none⟩ cs0).put l0 R0.busy).put l0 R0.ready)
def rot_Table_find.k2 (h2 : Hp) (l0 : Nat) (R0 : Rec) (b1 : Nat) (b2 : Nat) (b3 : Nat) (K : Value → Hp → Prop) : Prop :=
 ((((h2 l0) = (some R0.ready)) ∧ (∃ u2 : Value, ((h2.put l0 R0.over).cell? ⟨b1, 0, none⟩) = (some u2)) ∧ (((h2.put l0 R0.over).frozen? ⟨b1, 0, none⟩) = Bool.false) ∧ ((4 : Nat) = 4) ∧ (∀ v3 : Value, (v3 ∈ ([.int .i64 0, .string (⟨#[]⟩ : ByteArray), .int .u64 0, .bool Bool.false] : List Value) → (Den.cellish v3) = Bool.true)) ∧ (Free ((h2.put l0 R0.over).setCell ⟨b1, 0, none⟩ (.int .u64 0)) ⟨b2, 0, none⟩ 4) ∧ (∃ u3 : Value, ((((h2.put l0 R0.over).setCell ⟨b1, 0, none⟩ (.int .u64 0)).setCells ⟨b2, 0, none⟩ #[.int .i64 0, .string (⟨#[]⟩ : ByteArray), .int .u64 0, .bool Bool.false]).cell? ⟨b3, 0, none⟩) = (some u3)) ∧ (((((h2.put l0 R0.over).setCell ⟨b1, 0, none⟩ (.int .u64 0)).setCells ⟨b2, 0, none⟩ #[.int .i64 0, .string (⟨#[]⟩ : ByteArray), .int .u64 0, .bool Bool.false]).frozen? ⟨b3, 0, none⟩) = Bool.false) ∧ (∃ n5 : Int, ((((((h2.put l0 R0.over).setCell ⟨b1, 0, none⟩ (.int .u64 0)).setCells ⟨b2, 0, none⟩ #[.int .i64 0, .string (⟨#[]⟩ : ByteArray), .int .u64 0, .bool Bool.false]).setCell ⟨b3, 0, none⟩ (.bool Bool.false)).cell? ⟨b1, 0, none⟩) = (some (.int .u64 n5))) ∧ (∃ n6 : Int, (∃ s5 : ByteArray, (∃ n7 : Int, (∃ b7 : Bool, (CellsAt ((((h2.put l0 R0.over).setCell ⟨b1, 0, none⟩ (.int .u64 0)).setCells ⟨b2, 0, none⟩ #[.int .i64 0, .string (⟨#[]⟩ : ByteArray), .int .u64 0, .bool Bool.false]).setCell ⟨b3, 0, none⟩ (.bool Bool.false)) ⟨b2, 0, none⟩ 4 #[.int .i64 n6, .string s5, .int .u64 n7, .bool b7]) ∧ (∃ b8 : Bool, ((((((h2.put l0 R0.over).setCell ⟨b1, 0, none⟩ (.int .u64 0)).setCells ⟨b2, 0, none⟩ #[.int .i64 0, .string (⟨#[]⟩ : ByteArray), .int .u64 0, .bool Bool.false]).setCell ⟨b3, 0, none⟩ (.bool Bool.false)).cell? ⟨b3, 0, none⟩) = (some (.bool b8))) ∧ K (.tuple #[.int .u64 n5, .agg #[.int .i64 n6, .string s5, .int .u64 n7, .bool b7], .bool b8]) ((((h2.put l0 R0.over).setCell ⟨b1, 0, none⟩ (.int .u64 0)).setCells ⟨b2, 0, none⟩ #[.int .i64 0, .string (⟨#[]⟩ : ByteArray), .int .u64 0, .bool Bool.false]).setCell ⟨b3, 0, none⟩ (.bool Bool.false))))))))) ∨ ((((h2 l0) = (some (R0.done .ret))) ∧ (∃ n8 : Int, (((h2.put l0 (R0.overBy .ret)).cell? ⟨b1, 0, none⟩) = (some (.int .u64 n8))) ∧ (∃ n9 : Int, (∃ s6 : ByteArray, (∃ n10 : Int, (∃ b9 : Bool, (CellsAt (h2.put l0 (R0.overBy .ret)) ⟨b2, 0, none⟩ 4 #[.int .i64 n9, .string s6, .int .u64 n10, .bool b9]) ∧ (∃ b10 : Bool, (((h2.put l0 (R0.overBy .ret)).cell? ⟨b3, 0, none⟩) = (some (.bool b10))) ∧ K (.tuple #[.int .u64 n8, .agg #[.int .i64 n9, .string s6, .int .u64 n10, .bool b9], .bool b10]) (h2.put l0 (R0.overBy .ret))))))))) ∨ False))
def rot_Table_find.k3 (g0 : Nat) (h0 : Hp) (b0 : Nat) (b1 : Nat) (b2 : Nat) (b3 : Nat) (first0 : Array Value) (cap0 : Array Value) (K : Value → Hp → Prop) : Prop :=
 trueD (callable P g0) ((∀ l0 : Nat, (∀ R0 : Rec, ((h0 l0) = none → ((∀ n0 : Int, (∀ cs0 : Array Value, (∀ h1 : Hp, (∀ K0 : Value → Hp → Prop, ((h1 l0) = (some R0.ready) → ((∀ b4 : Nat, ((h1 b4) = none → (cs0.size = 4) ∧ (∀ v1 : Value, (v1 ∈ (Array.toList cs0 : List Value) → (Den.cellish v1) = Bool.true)) ∧ (Free (h1.put b4 (.cells #[.int .i64 0, .string (⟨#[]⟩ : ByteArray), .int .u64 0, .bool Bool.false] T.rot_entry (0, 0))) ⟨b4, 0, none⟩ 4) ∧ ((((h1.put b4 (.cells #[.int .i64 0, .string (⟨#[]⟩ : ByteArray), .int .u64 0, .bool Bool.false] T.rot_entry (0, 0))).setCells ⟨b4, 0, none⟩ cs0) l0) = (some R0.ready)) ∧ (∃ s1 : ByteArray, (((((h1.put b4 (.cells #[.int .i64 0, .string (⟨#[]⟩ : ByteArray), .int .u64 0, .bool Bool.false] T.rot_entry (0, 0))).setCells ⟨b4, 0, none⟩ cs0).put l0 R0.busy).cell? ((⟨b4, 0, none⟩ : Addr).add 1)) = (some (.string s1))) ∧ (∃ s2 : ByteArray, (((((h1.put b4 (.cells #[.int .i64 0, .string (⟨#[]⟩ : ByteArray), .int .u64 0, .bool Bool.false] T.rot_entry (0, 0))).setCells ⟨b4, 0, none⟩ cs0).put l0 R0.busy).cell? ⟨b0, 0, none⟩) = (some (.string s2))) ∧ bcase (((ByteArray.toList s1) == (ByteArray.toList s2)))
 ((rot_Table_find.k0 h1 b4 cs0 l0 R0 b1 n0 b2 b3 K0))
 ((rot_Table_find.k1 h1 b4 cs0 l0 R0 K0)))))) → HY P l0 #[.int .u64 n0, .agg cs0] h1 (K0))))))) → HC P g0 (Array.mk (Array.toList first0 ++ ((.func (.yield l0) #[] #[]) :: (Array.toList cap0)))) (h0.put l0 R0.ready) (fun x0 h2 => (rot_Table_find.k2 h2 l0 R0 b1 b2 b3 K)))))))
def rot_Table_find (p0 : Option Addr) (s0 : ByteArray) (K : Value → Hp → Prop) (h : Hp) : Prop :=
 (∀ b0 : Nat, ((h b0) = none → (∀ b1 : Nat, (((h.put b0 (.cells #[.string s0] T.string (0, 0))) b1) = none → (∀ b2 : Nat, ((((h.put b0 (.cells #[.string s0] T.string (0, 0))).put b1 (.cells #[.int .u64 0] T.uint64 (0, 0))) b2) = none → (∀ b3 : Nat, (((((h.put b0 (.cells #[.string s0] T.string (0, 0))).put b1 (.cells #[.int .u64 0] T.uint64 (0, 0))).put b2 (.cells #[.int .i64 0, .string (⟨#[]⟩ : ByteArray), .int .u64 0, .bool Bool.false] T.rot_entry (0, 0))) b3) = none → someD p0 (fun p1 => (∃ a0 : Option Addr, ((((((h.put b0 (.cells #[.string s0] T.string (0, 0))).put b1 (.cells #[.int .u64 0] T.uint64 (0, 0))).put b2 (.cells #[.int .i64 0, .string (⟨#[]⟩ : ByteArray), .int .u64 0, .bool Bool.false] T.rot_entry (0, 0))).put b3 (.cells #[.bool Bool.false] T.bool (0, 0))).cell? (p1.add 0)) = (some (.pointer a0))) ∧ HC P arena_Arena_rot_entry_All.n #[.pointer a0] ((((h.put b0 (.cells #[.string s0] T.string (0, 0))).put b1 (.cells #[.int .u64 0] T.uint64 (0, 0))).put b2 (.cells #[.int .i64 0, .string (⟨#[]⟩ : ByteArray), .int .u64 0, .bool Bool.false] T.rot_entry (0, 0))).put b3 (.cells #[.bool Bool.false] T.bool (0, 0))) (fun v0 h0 => (∃ g0 : Nat, (∃ first0 : Array Value, (∃ cap0 : Array Value, (v0 = (.func (.func g0) first0 cap0)) ∧ (rot_Table_find.k3 g0 h0 b0 b1 b2 b3 first0 cap0 K)))))))))))))))
theorem rot_Table_find.hc {p0 : Option Addr} {s0 : ByteArray} {K : Value → Hp → Prop} {h : Hp} (hh : rot_Table_find p0 s0 K h) : HC P rot_Table_find.n #[.pointer p0, .string s0] h K :=
  HC_of_den (fn := Go.Proofs.Tryz.f32) (args := [.pointer p0, .string s0]) Go.Proofs.Tryz.func32 rfl (Nat.le_of_ble_eq_true (by kernel_rfl)) (den_cast hh (by kernel_rfl))

def rot_Table_Put.k0 (K : Value → Hp → Prop) (h : Hp) (b1 : Nat) (cs0 : Array Value) : Prop :=
 K (.tuple #[.int .u64 0, .int .i64 3]) (h.put b1 (.cells cs0 T.api_Moniker (0, 0)))
def rot_Table_Put.k1 (K : Value → Hp → Prop) (h1 : Hp) (b3 : Nat) (cs2 : Array Value) : Prop :=
 K (.tuple #[.int .u64 0, .int .i64 13]) ((h1.put b3 (.cells #[.int .i64 0, .string (⟨#[]⟩ : ByteArray), .int .u64 0, .bool Bool.false] T.rot_entry (0, 0))).setCells ⟨b3, 0, none⟩ cs2)
def rot_Table_Put.k2 (p0 : Option Addr) (h1 : Hp) (b3 : Nat) (cs2 : Array Value) (n0 : Int) (s0 : ByteArray) (n1 : Int) (b0 : Bool) (K : Value → Hp → Prop) : Prop :=
 someD p0 (fun p1 => (∃ a0 : Option Addr, ((((h1.put b3 (.cells #[.int .i64 0, .string (⟨#[]⟩ : ByteArray), .int .u64 0, .bool Bool.false] T.rot_entry (0, 0))).setCells ⟨b3, 0, none⟩ cs2).cell? (p1.add 0)) = (some (.pointer a0))) ∧ HC P arena_Arena_rot_entry_Put.n #[.pointer a0, .agg #[.int .i64 n0, .string s0, .int .u64 n1, .bool b0]] ((h1.put b3 (.cells #[.int .i64 0, .string (⟨#[]⟩ : ByteArray), .int .u64 0, .bool Bool.false] T.rot_entry (0, 0))).setCells ⟨b3, 0, none⟩ cs2) (fun v3 h2 => (∃ n4 : Int, (∃ n5 : Int, (v3 = (.tuple #[.int .u64 n4, .int .i64 n5])) ∧ K (.tuple #[.int .u64 n4, .int .i64 n5]) h2)))))
def rot_Table_Put.k3 (h1 : Hp) (cs2 : Array Value) (b2 : Bool) (K : Value → Hp → Prop) (p0 : Option Addr) (n0 : Int) (s0 : ByteArray) (n1 : Int) (b0 : Bool) : Prop :=
 (∀ b3 : Nat, ((h1 b3) = none → (cs2.size = 4) ∧ (∀ v2 : Value, (v2 ∈ (Array.toList cs2 : List Value) → (Den.cellish v2) = Bool.true)) ∧ (Free (h1.put b3 (.cells #[.int .i64 0, .string (⟨#[]⟩ : ByteArray), .int .u64 0, .bool Bool.false] T.rot_entry (0, 0))) ⟨b3, 0, none⟩ 4) ∧ bcase (b2)
 ((rot_Table_Put.k1 K h1 b3 cs2))
 ((rot_Table_Put.k2 p0 h1 b3 cs2 n0 s0 n1 b0 K))))
def rot_Table_Put.k4 (p0 : Option Addr) (s0 : ByteArray) (h0 : Hp) (K : Value → Hp → Prop) (n0 : Int) (n1 : Int) (b0 : Bool) : Prop :=
 HC P rot_Table_find.n #[.pointer p0, .string s0] h0 (fun v1 h1 => (∃ n3 : Int, (∃ cs2 : Array Value, (∃ b2 : Bool, (v1 = (.tuple #[.int .u64 n3, .agg cs2, .bool b2])) ∧ (rot_Table_Put.k3 h1 cs2 b2 K p0 n0 s0 n1 b0)))))
def rot_Table_Put.k5 (n2 : Int) (K : Value → Hp → Prop) (h0 : Hp) (p0 : Option Addr) (s0 : ByteArray) (n0 : Int) (n1 : Int) (b0 : Bool) : Prop :=
 bcase ((n2 != 0))
 (K (.tuple #[.int .u64 0, .int .i64 n2]) h0)
 ((rot_Table_Put.k4 p0 s0 h0 K n0 n1 b0))
def rot_Table_Put.k6 (h : Hp) (b1 : Nat) (cs0 : Array Value) (K : Value → Hp → Prop) (p0 : Option Addr) (n0 : Int) (n1 : Int) (b0 : Bool) : Prop :=
 (∃ cs1 : Array Value, (CellsAt (h.put b1 (.cells cs0 T.api_Moniker (0, 0))) ⟨b1, 0, none⟩ 20 cs1) ∧ HC P rot_name.n #[.agg cs1] (h.put b1 (.cells cs0 T.api_Moniker (0, 0))) (fun v0 h0 => (∃ s0 : ByteArray, (∃ n2 : Int, (v0 = (.tuple #[.string s0, .int .i64 n2])) ∧ (rot_Table_Put.k5 n2 K h0 p0 s0 n0 n1 b0)))))
def rot_Table_Put (p0 : Option Addr) (n0 : Int) (cs0 : Array Value) (n1 : Int) (b0 : Bool) (K : Value → Hp → Prop) (h : Hp) : Prop :=
 (∀ b1 : Nat, ((h b1) = none → bcase (p0.isNone)
 ((rot_Table_Put.k0 K h b1 cs0))
 ((rot_Table_Put.k6 h b1 cs0 K p0 n0 n1 b0))))
theorem rot_Table_Put.hc {p0 : Option Addr} {n0 : Int} {cs0 : Array Value} {n1 : Int} {b0 : Bool} {K : Value → Hp → Prop} {h : Hp} (hh : rot_Table_Put p0 n0 cs0 n1 b0 K h) : HC P rot_Table_Put.n #[.pointer p0, .int .i64 n0, .agg cs0, .int .u64 n1, .bool b0] h K :=
  HC_of_den (fn := Go.Proofs.Tryz.f15) (args := [.pointer p0, .int .i64 n0, .agg cs0, .int .u64 n1, .bool b0]) Go.Proofs.Tryz.func15 rfl (Nat.le_of_ble_eq_true (by kernel_rfl)) (den_cast hh (by kernel_rfl))

def rot_Table_Find.k0 (K : Value → Hp → Prop) (h : Hp) (b0 : Nat) (cs0 : Array Value) : Prop :=
 K (.tuple #[.int .u64 0, .bool Bool.false, .int .i64 12]) (h.put b0 (.cells cs0 T.api_Moniker (0, 0)))
def rot_Table_Find.k1 (K : Value → Hp → Prop) (h1 : Hp) (b2 : Nat) (cs2 : Array Value) : Prop :=
 K (.tuple #[.int .u64 0, .bool Bool.false, .int .i64 12]) ((h1.put b2 (.cells #[.int .i64 0, .string (⟨#[]⟩ : ByteArray), .int .u64 0, .bool Bool.false] T.rot_entry (0, 0))).setCells ⟨b2, 0, none⟩ cs2)
def rot_Table_Find.k2 (h1 : Hp) (b2 : Nat) (cs2 : Array Value) (K : Value → Hp → Prop) : Prop :=
 (∃ n2 : Int, ((((h1.put b2 (.cells #[.int .i64 0, .string (⟨#[]⟩ : ByteArray), .int .u64 0, .bool Bool.false] T.rot_entry (0, 0))).setCells ⟨b2, 0, none⟩ cs2).cell? ((⟨b2, 0, none⟩ : Addr).add 2)) = (some (.int .u64 n2))) ∧ (∃ b3 : Bool, ((((h1.put b2 (.cells #[.int .i64 0, .string (⟨#[]⟩ : ByteArray), .int .u64 0, .bool Bool.false] T.rot_entry (0, 0))).setCells ⟨b2, 0, none⟩ cs2).cell? ((⟨b2, 0, none⟩ : Addr).add 3)) = (some (.bool b3))) ∧ K (.tuple #[.int .u64 n2, .bool b3, .int .i64 0]) ((h1.put b2 (.cells #[.int .i64 0, .string (⟨#[]⟩ : ByteArray), .int .u64 0, .bool Bool.false] T.rot_entry (0, 0))).setCells ⟨b2, 0, none⟩ cs2)))
def rot_Table_Find.k3 (h1 : Hp) (cs2 : Array Value) (b1 : Bool) (K : Value → Hp → Prop) : Prop :=
 (∀ b2 : Nat, ((h1 b2) = none → (cs2.size = 4) ∧ (∀ v2 : Value, (v2 ∈ (Array.toList cs2 : List Value) → (Den.cellish v2) = Bool.true)) ∧ (Free (h1.put b2 (.cells #[.int .i64 0, .string (⟨#[]⟩ : ByteArray), .int .u64 0, .bool Bool.false] T.rot_entry (0, 0))) ⟨b2, 0, none⟩ 4) ∧ bcase ((!b1))
 ((rot_Table_Find.k1 K h1 b2 cs2))
 ((rot_Table_Find.k2 h1 b2 cs2 K))))
def rot_Table_Find.k4 (p0 : Option Addr) (s0 : ByteArray) (h0 : Hp) (K : Value → Hp → Prop) : Prop :=
 HC P rot_Table_find.n #[.pointer p0, .string s0] h0 (fun v1 h1 => (∃ n1 : Int, (∃ cs2 : Array Value, (∃ b1 : Bool, (v1 = (.tuple #[.int .u64 n1, .agg cs2, .bool b1])) ∧ (rot_Table_Find.k3 h1 cs2 b1 K)))))
def rot_Table_Find.k5 (n0 : Int) (K : Value → Hp → Prop) (h0 : Hp) (p0 : Option Addr) (s0 : ByteArray) : Prop :=
 bcase ((n0 != 0))
 (K (.tuple #[.int .u64 0, .bool Bool.false, .int .i64 n0]) h0)
 ((rot_Table_Find.k4 p0 s0 h0 K))
def rot_Table_Find.k6 (h : Hp) (b0 : Nat) (cs0 : Array Value) (K : Value → Hp → Prop) (p0 : Option Addr) : Prop :=
 (∃ cs1 : Array Value, (CellsAt (h.put b0 (.cells cs0 T.api_Moniker (0, 0))) ⟨b0, 0, none⟩ 20 cs1) ∧ HC P rot_name.n #[.agg cs1] (h.put b0 (.cells cs0 T.api_Moniker (0, 0))) (fun v0 h0 => (∃ s0 : ByteArray, (∃ n0 : Int, (v0 = (.tuple #[.string s0, .int .i64 n0])) ∧ (rot_Table_Find.k5 n0 K h0 p0 s0)))))
def rot_Table_Find (p0 : Option Addr) (cs0 : Array Value) (K : Value → Hp → Prop) (h : Hp) : Prop :=
 (∀ b0 : Nat, ((h b0) = none → bcase (p0.isNone)
 ((rot_Table_Find.k0 K h b0 cs0))
 ((rot_Table_Find.k6 h b0 cs0 K p0))))
theorem rot_Table_Find.hc {p0 : Option Addr} {cs0 : Array Value} {K : Value → Hp → Prop} {h : Hp} (hh : rot_Table_Find p0 cs0 K h) : HC P rot_Table_Find.n #[.pointer p0, .agg cs0] h K :=
  HC_of_den (fn := Go.Proofs.Tryz.f16) (args := [.pointer p0, .agg cs0]) Go.Proofs.Tryz.func16 rfl (Nat.le_of_ble_eq_true (by kernel_rfl)) (den_cast hh (by kernel_rfl))

def rot_Table_Drop.k0 (h0 : Hp) (cs0 : Array Value) (K : Value → Hp → Prop) (n1 : Int) : Prop :=
 (∀ b0 : Nat, ((h0 b0) = none → (cs0.size = 4) ∧ (∀ v1 : Value, (v1 ∈ (Array.toList cs0 : List Value) → (Den.cellish v1) = Bool.true)) ∧ (Free (h0.put b0 (.cells #[.int .i64 0, .string (⟨#[]⟩ : ByteArray), .int .u64 0, .bool Bool.false] T.rot_entry (0, 0))) ⟨b0, 0, none⟩ 4) ∧ (∃ n2 : Int, ((((h0.put b0 (.cells #[.int .i64 0, .string (⟨#[]⟩ : ByteArray), .int .u64 0, .bool Bool.false] T.rot_entry (0, 0))).setCells ⟨b0, 0, none⟩ cs0).cell? ((⟨b0, 0, none⟩ : Addr).add 2)) = (some (.int .u64 n2))) ∧ (∃ b1 : Bool, ((((h0.put b0 (.cells #[.int .i64 0, .string (⟨#[]⟩ : ByteArray), .int .u64 0, .bool Bool.false] T.rot_entry (0, 0))).setCells ⟨b0, 0, none⟩ cs0).cell? ((⟨b0, 0, none⟩ : Addr).add 3)) = (some (.bool b1))) ∧ K (.tuple #[.int .u64 n2, .bool b1, .int .i64 n1]) ((h0.put b0 (.cells #[.int .i64 0, .string (⟨#[]⟩ : ByteArray), .int .u64 0, .bool Bool.false] T.rot_entry (0, 0))).setCells ⟨b0, 0, none⟩ cs0)))))
def rot_Table_Drop.k1 (p0 : Option Addr) (h : Hp) (n0 : Int) (K : Value → Hp → Prop) : Prop :=
 someD p0 (fun p1 => (∃ a0 : Option Addr, ((h.cell? (p1.add 0)) = (some (.pointer a0))) ∧ HC P arena_Arena_rot_entry_Drop.n #[.pointer a0, .int .u64 n0] h (fun v0 h0 => (∃ cs0 : Array Value, (∃ n1 : Int, (v0 = (.tuple #[.agg cs0, .int .i64 n1])) ∧ (rot_Table_Drop.k0 h0 cs0 K n1))))))
def rot_Table_Drop (p0 : Option Addr) (n0 : Int) (K : Value → Hp → Prop) (h : Hp) : Prop :=
 bcase (p0.isNone)
 (K (.tuple #[.int .u64 0, .bool Bool.false, .int .i64 2]) h)
 ((rot_Table_Drop.k1 p0 h n0 K))
theorem rot_Table_Drop.hc {p0 : Option Addr} {n0 : Int} {K : Value → Hp → Prop} {h : Hp} (hh : rot_Table_Drop p0 n0 K h) : HC P rot_Table_Drop.n #[.pointer p0, .int .u64 n0] h K :=
  HC_of_den (fn := Go.Proofs.Tryz.f17) (args := [.pointer p0, .int .u64 n0]) Go.Proofs.Tryz.func17 rfl (Nat.le_of_ble_eq_true (by kernel_rfl)) (den_cast hh (by kernel_rfl))

def rot_Table_Die.k0 (K : Value → Hp → Prop) (h : Hp) (b0 : Nat) (p0 : Option Addr) (b1 : Nat) (n0 : Int) : Prop :=
 K (.int .i64 0) ((h.put b0 (.cells #[.pointer p0] T.ptr_rot_Table (0, 0))).put b1 (.cells #[.int .u64 n0] T.uint64 (0, 0)))
def rot_Table_Die.k1 (h1 : Hp) (b3 : Nat) (cs0 : Array Value) (l0 : Nat) (R0 : Rec) (K0 : Value → Hp → Prop) : Prop :=
 (((((h1.put b3 (.cells #[.int .i64 0, .string (⟨#[]⟩ : ByteArray), .int .u64 0, .bool Bool.false] T.rot_entry (0, 0))).setCells ⟨b3, 0, none⟩ cs0).put l0 R0.busy) l0) = (some R0.busy)) ∧ K0 (.bool Bool.true) ((((h1.put b3 (.cells #[.int .i64 0, .string (⟨#[]⟩ : ByteArray), .int .u64 0, .bool Bool.false] T.rot_entry (0, 0))).setCells ⟨b3, 0, none⟩ cs0).put l0 R0.busy).put l0 R0.ready)
def rot_Table_Die.k2 (h2 : Hp) (b2 : Nat) (n5 : Int) (l0 : Nat) (R0 : Rec) (K0 : Value → Hp → Prop) : Prop :=
 (∃ u1 : Value, (h2.cell? ⟨b2, 0, none⟩) = (some u1)) ∧ ((h2.frozen? ⟨b2, 0, none⟩) = Bool.false) ∧ (((h2.setCell ⟨b2, 0, none⟩ (.int .i64 (IntKind.wrap .i64 (n5 + 1)))) l0) = (some R0.busy)) ∧ K0 (.bool Bool.true) ((h2.setCell ⟨b2, 0, none⟩ (.int .i64 (IntKind.wrap .i64 (n5 + 1)))).put l0 R0.ready)
def rot_Table_Die.k3 (h1 : Hp) (b3 : Nat) (cs0 : Array Value) (l0 : Nat) (R0 : Rec) (b0 : Nat) (n1 : Int) (b2 : Nat) (K0 : Value → Hp → Prop) : Prop :=
 (∃ a3 : Option Addr, (((((h1.put b3 (.cells #[.int .i64 0, .string (⟨#[]⟩ : ByteArray), .int .u64 0, .bool Bool.false] T.rot_entry (0, 0))).setCells ⟨b3, 0, none⟩ cs0).put l0 R0.busy).cell? ⟨b0, 0, none⟩) = (some (.pointer a3))) ∧ someD a3 (fun p2 => (∃ a4 : Option Addr, (((((h1.put b3 (.cells #[.int .i64 0, .string (⟨#[]⟩ : ByteArray), .int .u64 0, .bool Bool.false] T.rot_entry (0, 0))).setCells ⟨b3, 0, none⟩ cs0).put l0 R0.busy).cell? (p2.add 0)) = (some (.pointer a4))) ∧ HC P arena_Arena_rot_entry_Drop.n #[.pointer a4, .int .u64 n1] (((h1.put b3 (.cells #[.int .i64 0, .string (⟨#[]⟩ : ByteArray), .int .u64 0, .bool Bool.false] T.rot_entry (0, 0))).setCells ⟨b3, 0, none⟩ cs0).put l0 R0.busy) (fun v2 h2 => (∃ cs1 : Array Value, (∃ n4 : Int, (v2 = (.tuple #[.agg cs1, .int .i64 n4])) ∧ (∃ n5 : Int, ((h2.cell? ⟨b2, 0, none⟩) = (some (.int .i64 n5))) ∧ (rot_Table_Die.k2 h2 b2 n5 l0 R0 K0))))))))
def rot_Table_Die.k4 (h3 : Hp) (l0 : Nat) (R0 : Rec) (b2 : Nat) (K : Value → Hp → Prop) : Prop :=
 ((((h3 l0) = (some R0.ready)) ∧ (∃ n6 : Int, (((h3.put l0 R0.over).cell? ⟨b2, 0, none⟩) = (some (.int .i64 n6))) ∧ K (.int .i64 n6) (h3.put l0 R0.over))) ∨ False)
def rot_Table_Die.k5 (g0 : Nat) (h0 : Hp) (b1 : Nat) (b0 : Nat) (b2 : Nat) (first0 : Array Value) (cap0 : Array Value) (K : Value → Hp → Prop) : Prop :=
 trueD (callable P g0) ((∀ l0 : Nat, (∀ R0 : Rec, ((h0 l0) = none → ((∀ n1 : Int, (∀ cs0 : Array Value, (∀ h1 : Hp, (∀ K0 : Value → Hp → Prop, ((h1 l0) = (some R0.ready) → ((∀ b3 : Nat, ((h1 b3) = none → (cs0.size = 4) ∧ (∀ v1 : Value, (v1 ∈ (Array.toList cs0 : List Value) → (Den.cellish v1) = Bool.true)) ∧ (Free (h1.put b3 (.cells #[.int .i64 0, .string (⟨#[]⟩ : ByteArray), .int .u64 0, .bool Bool.false] T.rot_entry (0, 0))) ⟨b3, 0, none⟩ 4) ∧ ((((h1.put b3 (.cells #[.int .i64 0, .string (⟨#[]⟩ : ByteArray), .int .u64 0, .bool Bool.false] T.rot_entry (0, 0))).setCells ⟨b3, 0, none⟩ cs0) l0) = (some R0.ready)) ∧ (∃ n2 : Int, (((((h1.put b3 (.cells #[.int .i64 0, .string (⟨#[]⟩ : ByteArray), .int .u64 0, .bool Bool.false] T.rot_entry (0, 0))).setCells ⟨b3, 0, none⟩ cs0).put l0 R0.busy).cell? ((⟨b3, 0, none⟩ : Addr).add 2)) = (some (.int .u64 n2))) ∧ (∃ n3 : Int, (((((h1.put b3 (.cells #[.int .i64 0, .string (⟨#[]⟩ : ByteArray), .int .u64 0, .bool Bool.false] T.rot_entry (0, 0))).setCells ⟨b3, 0, none⟩ cs0).put l0 R0.busy).cell? ⟨b1, 0, none⟩) = (some (.int .u64 n3))) ∧ bcase ((n2 != n3))
 ((rot_Table_Die.k1 h1 b3 cs0 l0 R0 K0))
 ((rot_Table_Die.k3 h1 b3 cs0 l0 R0 b0 n1 b2 K0)))))) → HY P l0 #[.int .u64 n1, .agg cs0] h1 (K0))))))) → HC P g0 (Array.mk (Array.toList first0 ++ ((.func (.yield l0) #[] #[]) :: (Array.toList cap0)))) (h0.put l0 R0.ready) (fun x0 h3 => (rot_Table_Die.k4 h3 l0 R0 b2 K)))))))
def rot_Table_Die.k6 (h : Hp) (b0 : Nat) (p0 : Option Addr) (b1 : Nat) (n0 : Int) (K : Value → Hp → Prop) : Prop :=
 (∀ b2 : Nat, ((((h.put b0 (.cells #[.pointer p0] T.ptr_rot_Table (0, 0))).put b1 (.cells #[.int .u64 n0] T.uint64 (0, 0))) b2) = none → (∃ u0 : Value, ((((h.put b0 (.cells #[.pointer p0] T.ptr_rot_Table (0, 0))).put b1 (.cells #[.int .u64 n0] T.uint64 (0, 0))).put b2 (.cells #[.int .i64 0] T.int (0, 0))).cell? ⟨b2, 0, none⟩) = (some u0)) ∧ (((((h.put b0 (.cells #[.pointer p0] T.ptr_rot_Table (0, 0))).put b1 (.cells #[.int .u64 n0] T.uint64 (0, 0))).put b2 (.cells #[.int .i64 0] T.int (0, 0))).frozen? ⟨b2, 0, none⟩) = Bool.false) ∧ (∃ a1 : Option Addr, ((((((h.put b0 (.cells #[.pointer p0] T.ptr_rot_Table (0, 0))).put b1 (.cells #[.int .u64 n0] T.uint64 (0, 0))).put b2 (.cells #[.int .i64 0] T.int (0, 0))).setCell ⟨b2, 0, none⟩ (.int .i64 0)).cell? ⟨b0, 0, none⟩) = (some (.pointer a1))) ∧ someD a1 (fun p1 => (∃ a2 : Option Addr, ((((((h.put b0 (.cells #[.pointer p0] T.ptr_rot_Table (0, 0))).put b1 (.cells #[.int .u64 n0] T.uint64 (0, 0))).put b2 (.cells #[.int .i64 0] T.int (0, 0))).setCell ⟨b2, 0, none⟩ (.int .i64 0)).cell? (p1.add 0)) = (some (.pointer a2))) ∧ HC P arena_Arena_rot_entry_All.n #[.pointer a2] ((((h.put b0 (.cells #[.pointer p0] T.ptr_rot_Table (0, 0))).put b1 (.cells #[.int .u64 n0] T.uint64 (0, 0))).put b2 (.cells #[.int .i64 0] T.int (0, 0))).setCell ⟨b2, 0, none⟩ (.int .i64 0)) (fun v0 h0 => (∃ g0 : Nat, (∃ first0 : Array Value, (∃ cap0 : Array Value, (v0 = (.func (.func g0) first0 cap0)) ∧ (rot_Table_Die.k5 g0 h0 b1 b0 b2 first0 cap0 K))))))))))
def rot_Table_Die (p0 : Option Addr) (n0 : Int) (K : Value → Hp → Prop) (h : Hp) : Prop :=
 (∀ b0 : Nat, ((h b0) = none → (∀ b1 : Nat, (((h.put b0 (.cells #[.pointer p0] T.ptr_rot_Table (0, 0))) b1) = none → (∃ a0 : Option Addr, ((((h.put b0 (.cells #[.pointer p0] T.ptr_rot_Table (0, 0))).put b1 (.cells #[.int .u64 n0] T.uint64 (0, 0))).cell? ⟨b0, 0, none⟩) = (some (.pointer a0))) ∧ bcase (a0.isNone)
 ((rot_Table_Die.k0 K h b0 p0 b1 n0))
 ((rot_Table_Die.k6 h b0 p0 b1 n0 K)))))))
theorem rot_Table_Die.hc {p0 : Option Addr} {n0 : Int} {K : Value → Hp → Prop} {h : Hp} (hh : rot_Table_Die p0 n0 K h) : HC P rot_Table_Die.n #[.pointer p0, .int .u64 n0] h K :=
  HC_of_den (fn := Go.Proofs.Tryz.f18) (args := [.pointer p0, .int .u64 n0]) Go.Proofs.Tryz.func18 rfl (Nat.le_of_ble_eq_true (by kernel_rfl)) (den_cast hh (by kernel_rfl))

def rot_Table_Leave.k0 (K : Value → Hp → Prop) (h : Hp) (b0 : Nat) (p0 : Option Addr) (b1 : Nat) (n0 : Int) : Prop :=
 K (.slice none 0 0) ((h.put b0 (.cells #[.pointer p0] T.ptr_rot_Table (0, 0))).put b1 (.cells #[.int .i64 n0] T.int (0, 0)))
def rot_Table_Leave.k1 (h1 : Hp) (b3 : Nat) (cs0 : Array Value) (l0 : Nat) (R0 : Rec) (K0 : Value → Hp → Prop) : Prop :=
 (((((h1.put b3 (.cells #[.int .i64 0, .string (⟨#[]⟩ : ByteArray), .int .u64 0, .bool Bool.false] T.rot_entry (0, 0))).setCells ⟨b3, 0, none⟩ cs0).put l0 R0.busy) l0) = (some R0.busy)) ∧ K0 (.bool Bool.true) ((((h1.put b3 (.cells #[.int .i64 0, .string (⟨#[]⟩ : ByteArray), .int .u64 0, .bool Bool.false] T.rot_entry (0, 0))).setCells ⟨b3, 0, none⟩ cs0).put l0 R0.busy).put l0 R0.ready)
def rot_Table_Leave.k2 (h3 : Hp) (b2 : Nat) (a6 : Option Addr) (n7 : Nat) (c1 : Nat) (l0 : Nat) (R0 : Rec) (K0 : Value → Hp → Prop) : Prop :=
 (∃ u0 : Value, (h3.cell? ⟨b2, 0, none⟩) = (some u0)) ∧ ((h3.frozen? ⟨b2, 0, none⟩) = Bool.false) ∧ (((h3.setCell ⟨b2, 0, none⟩ (.slice a6 n7 c1)) l0) = (some R0.busy)) ∧ K0 (.bool Bool.true) ((h3.setCell ⟨b2, 0, none⟩ (.slice a6 n7 c1)).put l0 R0.ready)
def rot_Table_Leave.k3 (h2 : Hp) (b2 : Nat) (b3 : Nat) (l0 : Nat) (R0 : Rec) (K0 : Value → Hp → Prop) : Prop :=
 (∃ a5 : Option Addr, (∃ n5 : Nat, (∃ c0 : Nat, ((h2.cell? ⟨b2, 0, none⟩) = (some (.slice a5 n5 c0))) ∧ (∃ n6 : Int, ((h2.cell? ((⟨b3, 0, none⟩ : Addr).add 2)) = (some (.int .u64 n6))) ∧ (∀ b5 : Nat, ((h2 b5) = none → wpSem P (Builtin.append_ #[T.sl_uint64, T.sl_uint64] T.sl_uint64 #[.slice a5 n5 c0, .slice (some ⟨b5, 0, none⟩) 1 1]) (fun v3 h3 => (∃ a6 : Option Addr, (∃ n7 : Nat, (∃ c1 : Nat, (v3 = (.slice a6 n7 c1)) ∧ (rot_Table_Leave.k2 h3 b2 a6 n7 c1 l0 R0 K0))))) (h2.put b5 (.cells #[.int .u64 n6] T.uint64 (0, 0)))))))))
def rot_Table_Leave.k4 (b4 : Bool) (h2 : Hp) (b2 : Nat) (b3 : Nat) (l0 : Nat) (R0 : Rec) (K0 : Value → Hp → Prop) : Prop :=
 bcase (b4)
 ((rot_Table_Leave.k3 h2 b2 b3 l0 R0 K0))
 (((h2 l0) = (some R0.busy)) ∧ K0 (.bool Bool.true) (h2.put l0 R0.ready))
def rot_Table_Leave.k5 (h1 : Hp) (b3 : Nat) (cs0 : Array Value) (l0 : Nat) (R0 : Rec) (b0 : Nat) (n1 : Int) (b2 : Nat) (K0 : Value → Hp → Prop) : Prop :=
 (∃ a3 : Option Addr, (((((h1.put b3 (.cells #[.int .i64 0, .string (⟨#[]⟩ : ByteArray), .int .u64 0, .bool Bool.false] T.rot_entry (0, 0))).setCells ⟨b3, 0, none⟩ cs0).put l0 R0.busy).cell? ⟨b0, 0, none⟩) = (some (.pointer a3))) ∧ someD a3 (fun p2 => (∃ a4 : Option Addr, (((((h1.put b3 (.cells #[.int .i64 0, .string (⟨#[]⟩ : ByteArray), .int .u64 0, .bool Bool.false] T.rot_entry (0, 0))).setCells ⟨b3, 0, none⟩ cs0).put l0 R0.busy).cell? (p2.add 0)) = (some (.pointer a4))) ∧ HC P arena_Arena_rot_entry_Drop.n #[.pointer a4, .int .u64 n1] (((h1.put b3 (.cells #[.int .i64 0, .string (⟨#[]⟩ : ByteArray), .int .u64 0, .bool Bool.false] T.rot_entry (0, 0))).setCells ⟨b3, 0, none⟩ cs0).put l0 R0.busy) (fun v2 h2 => (∃ cs1 : Array Value, (∃ n4 : Int, (v2 = (.tuple #[.agg cs1, .int .i64 n4])) ∧ (∃ b4 : Bool, ((h2.cell? ((⟨b3, 0, none⟩ : Addr).add 3)) = (some (.bool b4))) ∧ (rot_Table_Leave.k4 b4 h2 b2 b3 l0 R0 K0))))))))
def rot_Table_Leave.k6 (h4 : Hp) (l0 : Nat) (R0 : Rec) (b2 : Nat) (K : Value → Hp → Prop) : Prop :=
 ((((h4 l0) = (some R0.ready)) ∧ (∃ a7 : Option Addr, (∃ n8 : Nat, (∃ c2 : Nat, (((h4.put l0 R0.over).cell? ⟨b2, 0, none⟩) = (some (.slice a7 n8 c2))) ∧ K (.slice a7 n8 c2) (h4.put l0 R0.over))))) ∨ False)
def rot_Table_Leave.k7 (g0 : Nat) (h0 : Hp) (b1 : Nat) (b0 : Nat) (b2 : Nat) (first0 : Array Value) (cap0 : Array Value) (K : Value → Hp → Prop) : Prop :=
 trueD (callable P g0) ((∀ l0 : Nat, (∀ R0 : Rec, ((h0 l0) = none → ((∀ n1 : Int, (∀ cs0 : Array Value, (∀ h1 : Hp, (∀ K0 : Value → Hp → Prop, ((h1 l0) = (some R0.ready) → ((∀ b3 : Nat, ((h1 b3) = none → (cs0.size = 4) ∧ (∀ v1 : Value, (v1 ∈ (Array.toList cs0 : List Value) → (Den.cellish v1) = Bool.true)) ∧ (Free (h1.put b3 (.cells #[.int .i64 0, .string (⟨#[]⟩ : ByteArray), .int .u64 0, .bool Bool.false] T.rot_entry (0, 0))) ⟨b3, 0, none⟩ 4) ∧ ((((h1.put b3 (.cells #[.int .i64 0, .string (⟨#[]⟩ : ByteArray), .int .u64 0, .bool Bool.false] T.rot_entry (0, 0))).setCells ⟨b3, 0, none⟩ cs0) l0) = (some R0.ready)) ∧ (∃ n2 : Int, (((((h1.put b3 (.cells #[.int .i64 0, .string (⟨#[]⟩ : ByteArray), .int .u64 0, .bool Bool.false] T.rot_entry (0, 0))).setCells ⟨b3, 0, none⟩ cs0).put l0 R0.busy).cell? ((⟨b3, 0, none⟩ : Addr).add 0)) = (some (.int .i64 n2))) ∧ (∃ n3 : Int, (((((h1.put b3 (.cells #[.int .i64 0, .string (⟨#[]⟩ : ByteArray), .int .u64 0, .bool Bool.false] T.rot_entry (0, 0))).setCells ⟨b3, 0, none⟩ cs0).put l0 R0.busy).cell? ⟨b1, 0, none⟩) = (some (.int .i64 n3))) ∧ bcase ((n2 != n3))
 ((rot_Table_Leave.k1 h1 b3 cs0 l0 R0 K0))
 ((rot_Table_Leave.k5 h1 b3 cs0 l0 R0 b0 n1 b2 K0)))))) → HY P l0 #[.int .u64 n1, .agg cs0] h1 (K0))))))) → HC P g0 (Array.mk (Array.toList first0 ++ ((.func (.yield l0) #[] #[]) :: (Array.toList cap0)))) (h0.put l0 R0.ready) (fun x0 h4 => (rot_Table_Leave.k6 h4 l0 R0 b2 K)))))))
def rot_Table_Leave.k8 (h : Hp) (b0 : Nat) (p0 : Option Addr) (b1 : Nat) (n0 : Int) (K : Value → Hp → Prop) : Prop :=
 (∀ b2 : Nat, ((((h.put b0 (.cells #[.pointer p0] T.ptr_rot_Table (0, 0))).put b1 (.cells #[.int .i64 n0] T.int (0, 0))) b2) = none → (∃ a1 : Option Addr, (((((h.put b0 (.cells #[.pointer p0] T.ptr_rot_Table (0, 0))).put b1 (.cells #[.int .i64 n0] T.int (0, 0))).put b2 (.cells #[.slice none 0 0] T.sl_uint64 (0, 0))).cell? ⟨b0, 0, none⟩) = (some (.pointer a1))) ∧ someD a1 (fun p1 => (∃ a2 : Option Addr, (((((h.put b0 (.cells #[.pointer p0] T.ptr_rot_Table (0, 0))).put b1 (.cells #[.int .i64 n0] T.int (0, 0))).put b2 (.cells #[.slice none 0 0] T.sl_uint64 (0, 0))).cell? (p1.add 0)) = (some (.pointer a2))) ∧ HC P arena_Arena_rot_entry_All.n #[.pointer a2] (((h.put b0 (.cells #[.pointer p0] T.ptr_rot_Table (0, 0))).put b1 (.cells #[.int .i64 n0] T.int (0, 0))).put b2 (.cells #[.slice none 0 0] T.sl_uint64 (0, 0))) (fun v0 h0 => (∃ g0 : Nat, (∃ first0 : Array Value, (∃ cap0 : Array Value, (v0 = (.func (.func g0) first0 cap0)) ∧ (rot_Table_Leave.k7 g0 h0 b1 b0 b2 first0 cap0 K))))))))))
def rot_Table_Leave (p0 : Option Addr) (n0 : Int) (K : Value → Hp → Prop) (h : Hp) : Prop :=
 (∀ b0 : Nat, ((h b0) = none → (∀ b1 : Nat, (((h.put b0 (.cells #[.pointer p0] T.ptr_rot_Table (0, 0))) b1) = none → (∃ a0 : Option Addr, ((((h.put b0 (.cells #[.pointer p0] T.ptr_rot_Table (0, 0))).put b1 (.cells #[.int .i64 n0] T.int (0, 0))).cell? ⟨b0, 0, none⟩) = (some (.pointer a0))) ∧ bcase (a0.isNone)
 ((rot_Table_Leave.k0 K h b0 p0 b1 n0))
 ((rot_Table_Leave.k8 h b0 p0 b1 n0 K)))))))
theorem rot_Table_Leave.hc {p0 : Option Addr} {n0 : Int} {K : Value → Hp → Prop} {h : Hp} (hh : rot_Table_Leave p0 n0 K h) : HC P rot_Table_Leave.n #[.pointer p0, .int .i64 n0] h K :=
  HC_of_den (fn := Go.Proofs.Tryz.f19) (args := [.pointer p0, .int .i64 n0]) Go.Proofs.Tryz.func19 rfl (Nat.le_of_ble_eq_true (by kernel_rfl)) (den_cast hh (by kernel_rfl))

end
end Go.Den.Mon
end

section
set_option linter.unusedVariables false
set_option maxRecDepth 100000
namespace Go.Den.Mon
open Go Go.Den
variable {h : Hp} {K : Value → Hp → Prop}
/-! ### In plain words -/
/-! ### Right ones -/
def Rt (h : Hp) (l : List Raw) (x : Raw) : Prop := ∃ rows m, Top h x rows m ∧ partsOf x rows = l ∧ rright x rows = true
section
variable {h' : Hp} {l l' : List Raw} {x y : Raw}
theorem Got.rt (g : Got h l x) : Rt h l x := by obtain ⟨rows, t, a, b⟩ := g; exact ⟨rows, _, t, a, b⟩
theorem Rt.step (g : Rt h l x) (s : Step [] h [] h') : Rt h' l x := by obtain ⟨rows, m, t, a, b⟩ := g; exact ⟨rows, m, t.step s, a, b⟩
theorem Rt.ok (g : Rt h l x) : x.Ok := by obtain ⟨rows, m, t, a, b⟩ := g; exact t.deep.ok
theorem Rt.len (g : Rt h l x) : l.length ≤ 64 := by obtain ⟨rows, m, t, a, b⟩ := g; rw [← a]; exact parts_len t b
theorem Got.same (g : Got h l x) (g' : Got h l y) (hk : ∀ h', Step [] h [] h' → K (.bool true) h') : HC P ref21_Same.n #[.agg (mc x).toArray, .agg (mc y).toArray] h K := by
  obtain ⟨rows, t, -, -⟩ := g
  obtain ⟨rows', t', -, -⟩ := g'
  refine rSame_spec t.deep h y _ _ (Step.refl _ _) t'.deep fun r h2 hr s2 => ?_
  rw [hr.2 rfl]; exact hk h2 s2
end
/-- A result laid in a block of the law's own. -/
structure Held (hh : Hp) (b : Nat) (l : List Raw) (x : Raw) : Prop where
  M : MB hh b x
  g : Got hh l x
section
variable {h' : Hp} {l l' : List Raw} {x y : Raw} {b : Nat}
theorem Held.step (w : Held h b l x) (s : Step [] h [] h') : Held h' b l x := ⟨w.M.step s, w.g.step s⟩
theorem Held.all (w : Held h b l x) : CellsAt h ⟨b, 0, none⟩ 20 (mc x).toArray := w.M.all w.g.rt.ok
theorem Held.new (g : Got h l x) (hb : h b = none) : Held (h.put b (.cells (mc x).toArray T.api_Moniker (0, 0))) b l x ∧ Step [] h [] (h.put b (.cells (mc x).toArray T.api_Moniker (0, 0))) :=
  ⟨⟨put_self, g.step (Step.put (.inr hb))⟩, Step.put (.inr hb)⟩
end
/-- What a law of right monikers keeps. -/
structure Kp (h hh : Hp) : Prop where
  E : Env hh
  st : Step [] h [] hh
theorem Kp.step {hh h' : Hp} (w : Kp h hh) (s : Step [] hh [] h') : Kp h h' := ⟨w.E.step s, w.st.trans s⟩
end Go.Den.Mon
end

section
set_option linter.unusedVariables false
set_option maxRecDepth 100000
namespace Go.Den
variable {S Q : Rg → Prop} {h0 h h' : Hp} {c0 c : Col}
theorem Same.step {Q : Rg → Prop} {h h' : Hp} {c : Col} {o o' : List Nat} (s : Step o h o' h') (w : WF h c) (hz : ¬ Q z0) (ho : ∀ k ∈ o, ¬ Q (c k)) : Same Q h c h' c := fun k hk =>
  ⟨s.keep k (w k fun e => hz (by rw [← e]; exact hk)) fun hm => ho k hm hk, rfl⟩
theorem Chg.step {S : Rg → Prop} {h0 h h' : Hp} {c0 c : Col} {o o' : List Nat} (a : Chg S h0 c0 h c) (s : Step o h o' h') (ho : ∀ k ∈ o, S (c k)) : Chg S h0 c0 h' c :=
  ⟨fun k hk => s.dom k (a.dom k hk), fun k hk hs => by
    obtain ⟨e1, e2⟩ := a.keep k hk hs
    exact ⟨(s.keep k (a.dom k hk) fun hm => hs (by rw [← e2]; exact ho k hm)).trans e1, e2⟩, fun k hk => s.dom k (a.wf k hk)⟩
theorem Same.col {t : Nat} {r : Rg} (hq : ¬ Q (c t)) : Same Q h c h (c.set t r) := fun k hk =>
  ⟨rfl, Col.set_ne fun e => hq (by rw [← e]; exact hk)⟩
theorem Chg.col {t : Nat} {r : Rg} (a : Chg S h0 c0 h c) (ht : h0 t = none) (ht' : h t ≠ none) : Chg S h0 c0 h (c.set t r) :=
  ⟨a.dom, fun k hk hs => by
    obtain ⟨e1, e2⟩ := a.keep k hk hs
    exact ⟨e1, by rw [Col.set_ne fun e => hk (by rw [e]; exact ht)]; exact e2⟩, fun k hk => by
    by_cases e : k = t
    · rw [e]; exact ht'
    · rw [Col.set_ne e] at hk; exact a.wf k hk⟩
theorem WF.col {t : Nat} {r : Rg} (w : WF h c) (ht : h t ≠ none) : WF h (c.set t r) := fun k hk => by
  by_cases e : k = t
  · rw [e]; exact ht
  · rw [Col.set_ne e] at hk; exact w k hk
theorem WF.read {h h' : Hp} {c : Col} {o : List Nat} (w : WF h c) (s : Step [] h o h') : WF h' c := fun k hk => s.dom k (w k hk)
end Go.Den
namespace Go.Den.Rot
open Go Go.Den Go.Den.Mon
variable {h h' : Hp} {c c' : Col} {K : Value → Hp → Prop} {S A most : Nat} {sp : List Sp} {fr : List Nat}
def pR : Rg → Prop := fun r => r.1 = 1 ∨ r.1 = 2
theorem pR_z : ¬ pR z0 := by simp [pR]
structure PStA (h : Hp) (c : Col) (S most : Nat) (sp : List Sp) (fr : List Nat) (A : Nat) : Prop where
  blk : h S = some (.cells #[.pointer (some ⟨A, 0, none⟩)] T.rot_Table (0, 0))
  col : c S = (2, 0)
  ar : ArAt h c A most sp fr
def PSt (h : Hp) (c : Col) (S most : Nat) (sp : List Sp) (fr : List Nat) : Prop := ∃ A, PStA h c S most sp fr A
theorem PStA.keep (t : PStA h c S most sp fr A) (s : Same pR h c h' c') : PStA h' c' S most sp fr A := by
  obtain ⟨e1, e2⟩ := s S (by rw [t.col]; exact .inr rfl)
  exact ⟨e1.trans t.blk, e2.trans t.col, t.ar.keep (s.weak fun r e => .inl e)⟩
theorem PSt.keep (t : PSt h c S most sp fr) (s : Same pR h c h' c') : PSt h' c' S most sp fr := by obtain ⟨A, t⟩ := t; exact ⟨A, t.keep s⟩
theorem same_read {Q : Rg → Prop} {o : List Nat} (w : WF h c) (hz : ¬ Q z0) (s : Step [] h o h') : Same Q h c h' c := (Chg.of_read (S := fun _ => False) s w).same w fun r hr => ⟨fun e => hz (by rw [← e]; exact hr), by simp⟩
theorem PStA.read {o : List Nat} (t : PStA h c S most sp fr A) (w : WF h c) (s : Step [] h o h') : PStA h' c S most sp fr A := t.keep (same_read w pR_z s)
theorem PSt.read {o : List Nat} (t : PSt h c S most sp fr) (w : WF h c) (s : Step [] h o h') : PSt h' c S most sp fr := by obtain ⟨A, t⟩ := t; exact ⟨A, t.read w s⟩
theorem PSt.len (t : PSt h c S most sp fr) : sp.length ≤ most ∧ most ≤ 65536 := by
  obtain ⟨A, t⟩ := t
  obtain ⟨_, _, _, _, _, a⟩ := t.ar
  exact a.len
theorem PSt.fre (t : PSt h c S most sp fr) : Fre sp fr := by
  obtain ⟨A, t⟩ := t
  obtain ⟨_, _, _, _, _, a⟩ := t.ar
  exact a.fre
theorem PSt.g (t : PSt h c S most sp fr) : ∀ s ∈ sp, s.g < 4294967296 := by
  obtain ⟨A, t⟩ := t
  obtain ⟨_, _, _, _, _, a⟩ := t.ar
  exact a.g
theorem rNew_ok {n : Int} (w : WF h c) (hn : 1 ≤ n ∧ n ≤ 65536) (hk : ∀ S h' c', PSt h' c' S n.toNat [] [] → Chg pR h c h' c' → K (.tuple #[.pointer (some ⟨S, 0, none⟩), .int .i64 0]) h') : HC P rot_New.n #[.int .i64 n] h K := by
  refine rot_New.hc ?_
  unfold rot_New
  refine New_spec w hn fun A h1 c1 a1 q1 => ⟨_, _, rfl, ?_⟩
  unfold rot_New.k1
  refine bcF rfl ?_
  unfold rot_New.k0
  intro S hS
  have q2 : Chg pR h1 c1 (h1.put S (.cells #[.pointer (some ⟨A, 0, none⟩)] T.rot_Table (0, 0))) (c1.set S (2, 0)) := (Chg.refl q1.wf).newC hS
  refine hk S _ _ ⟨A, put_self, Col.set_self, a1.keep (Same.putC (by rw [q1.wf.fresh hS]; simp))⟩ ((q1.weak fun r e => .inl e).trans q2)
/-! ### Names -/
def nm (x : Raw) (rows : List Raw) : List UInt8 := txtOf (red [] (partsOf x rows))
theorem name_spec (en : Mon.Env h) {x : Raw} {rows : List Raw} {m : Mon} (t : Top h x rows m) (hk : rright x rows = true → ∀ h', Step [] h [] h' → K (.tuple #[.string (str (nm x rows)), .int .i64 0]) h')
    (hx : rright x rows = false → ∀ h', Step [] h [] h' → K (.tuple #[.string (⟨#[]⟩ : ByteArray), .int .i64 5]) h') : HC P rot_name.n #[.agg (mc x).toArray] h K := by
  have kx := t.deep.ok
  refine rot_name.hc ?_
  unfold rot_name
  intro b0 hb0
  have S0 : Step [] h [] (h.put b0 (.cells (mc x).toArray T.api_Moniker (0, 0))) := Step.put (.inr hb0)
  have M0 : MB (h.put b0 (.cells (mc x).toArray T.api_Moniker (0, 0))) b0 x := put_self
  refine ⟨_, M0.all kx, Reduce_spec (t.step S0) (fun r y h1 g s1 => ⟨_, _, rfl, ?_⟩) fun r h1 s1 => ⟨_, _, rfl, ?_⟩⟩
  · have ky := g.rt.ok
    unfold rot_name.k2
    intro b1 hb1
    refine ⟨by simpa using mc_len ky, mc_cellish, freeM, bcF rfl ?_⟩
    unfold rot_name.k1
    rw [newM ky hb1]
    have S1 : Step [] h1 [] (h1.put b1 (.cells (mc y).toArray T.api_Moniker (0, 0))) := Step.put (.inr hb1)
    have M1 : MB (h1.put b1 (.cells (mc y).toArray T.api_Moniker (0, 0))) b1 y := put_self
    have st := (S0.trans s1).trans S1
    obtain ⟨rws, ty, ep, er⟩ := g.step S1
    refine ⟨_, M1.all ky, Print_spec (en.step st) ty (fun _ h2 s2 => ⟨_, _, rfl, ?_⟩) fun z => by rw [er] at z; cases z⟩
    rw [ep]
    exact hk r h2 (st.trans s2)
  · unfold rot_name.k2
    intro b1 hb1
    refine ⟨by simpa using mc_len nl_ok, mc_cellish, freeM, bcT rfl ?_⟩
    unfold rot_name.k0
    rw [newM nl_ok hb1]
    exact hx r _ ((S0.trans s1).trans (Step.put (.inr hb1)))
end Go.Den.Rot
end

