import Derived.Test.YtngngmkgkhmomaaGreatDoorDenS
import Derived.KernelRfl
import Derived.Lib.TrimUEq
/- Texts that the claim needs, joined. -/
section
set_option linter.unusedVariables false
set_option maxRecDepth 100000
namespace Go.Den.Mon
open Go Go.Den
variable {h : Hp} {K : Value → Hp → Prop}
theorem lays240 : Go.Proofs.Lays.n240 P Go.Proofs.Tryz.lays159_ren := { Go.Proofs.Tryz.lays159 with }
theorem x72 : Go.Proofs.Builder.X72 P Go.Proofs.Tryz.lays159_ren := { Go.Proofs.Tryz.extra159 with }
/-! ### A Builder -/
/-- A Builder that has so many bytes; o: its row. -/
def BldAt (h : Hp) (b : Nat) (bs : List UInt8) (o : List Nat) : Prop := ∃ (p : Option Addr) (a : Option Addr) (c : Nat), h b = some (.cells #[.pointer p, .slice a bs.length c] T.strings_Builder (0, 0)) ∧ (p = none ∨ p = some ⟨b, 0, none⟩) ∧ SlAt h T.uint8 1 AnyV a bs.length c (bvs bs) o ∧ b ∉ o ∧ (a = none ∨ 0 < c ∧ ∃ g, a = some ⟨g, 0, none⟩)
theorem copyCheck_spec {b : Nat} {p : Option Addr} {v : Value} (hb : h b = some (.cells #[.pointer p, v] T.strings_Builder (0, 0))) (hp : p = none ∨ p = some ⟨b, 0, none⟩)
    (hk : K (.tuple #[]) (h.put b (.cells #[.pointer (some ⟨b, 0, none⟩), v] T.strings_Builder (0, 0)))) : HC P strings_Builder_copyCheck.n #[.pointer (some ⟨b, 0, none⟩)] h K := by
  intro w hw
  have hwb : w.heap[b]? = some (.cells #[.pointer p, v] T.strings_Builder (0, 0)) := by rw [← hw] at hb; exact (hp_some hb).1
  have c0 : w.cell? ⟨b, 0, none⟩ = some (.pointer p) := by rw [← hp_cell?, hw, cell_of hb]; rfl
  rcases hp with rfl | rfl
  · refine (callsIn_wide.2 (Go.Proofs.Any.Builder_copyCheck_fresh lays240 x72 b w c0 (by simp [World.shape?, hwb]; rfl) (by rw [← hp_frozen?, hw]; exact frozen_of hb))).mono ?_
    rintro e w' ⟨rfl, rfl⟩
    refine ⟨_, rfl, Amb.setCell _ _ _, ?_⟩
    rw [hp_setCell, hw, setCell_of hb]
    exact hk
  · refine (callsIn_wide.2 (Go.Proofs.Any.Builder_copyCheck_used lays240 x72 b w c0)).mono ?_
    rintro e w' ⟨rfl, rfl⟩
    refine ⟨_, rfl, Amb.refl _, ?_⟩
    rw [hw]
    rw [put_id hb] at hk
    exact hk
theorem BldAt.step {h h' : Hp} {b : Nat} {bs : List UInt8} {o own : List Nat} (B : BldAt h b bs o) (s : Step own h own h') (hb : b ∉ own) (ho : ∀ k ∈ o, k ∉ own) : BldAt h' b bs o := by
  obtain ⟨p, a, c, B0, hp, sl, hn, hr⟩ := B
  exact ⟨p, a, c, s.block B0 hb, hp, sl.keep fun k hk => s.keep k (sl.mem k hk) (ho k hk), hn, hr⟩
theorem BldAt.mem {h : Hp} {b : Nat} {bs : List UInt8} {o : List Nat} (B : BldAt h b bs o) : h b ≠ none := by
  obtain ⟨p, a, c, B0, -⟩ := B
  rw [B0]; simp
theorem BldAt.new {h : Hp} {b : Nat} (hb : h b = none) : BldAt (h.put b (.cells #[.pointer none, .slice none 0 0] T.strings_Builder (0, 0))) b [] [] :=
  ⟨none, none, 0, put_self, .inl rfl, .none, by simp, .inl rfl⟩
theorem BldAt.put {h : Hp} {b : Nat} {bs' : List UInt8} {o o' : List Nat} {a a' : Option Addr} {n n' c c' : Nat} {h' : Hp} (hb : b ∉ o) (B0 : h b = some (.cells #[.pointer (some ⟨b, 0, none⟩), .slice a n c] T.strings_Builder (0, 0)))
    (s1 : SlAt h' T.uint8 1 AnyV a' n' c' (bvs bs') o') (hn : n' = bs'.length) (ha : a' = none ∨ 0 < c' ∧ ∃ g, a' = some ⟨g, 0, none⟩) (S : Step o h o' h') : BldAt (h'.setCell ⟨b, 1, none⟩ (.slice a' n' c')) b bs' o' ∧ Step (o ++ [b]) h (o' ++ [b]) (h'.setCell ⟨b, 1, none⟩ (.slice a' n' c')) := by
  subst hn
  have B1 : h' b = some (.cells #[.pointer (some ⟨b, 0, none⟩), .slice a n c] T.strings_Builder (0, 0)) := S.block B0 hb
  have hb' : b ∉ o' := fun hm => by
    rcases S.own b hm with hm | hm
    · exact hb hm
    · rw [B0] at hm; cases hm
  refine ⟨⟨_, a', c', ?_, .inr rfl, ?_, hb', ha⟩, ?_⟩
  · rw [setCell_blk B1]; rfl
  · exact s1.keep fun k hk => setCell_ne fun e => hb' (by rw [← e]; exact hk)
  · exact (S.frame [b]).trans (Step.setCell B1 (by simp))
theorem room {h : Hp} {a a' : Option Addr} {len c c' n : Nat} {o : List Nat} {vs : List Value} (s : SlAt h T.uint8 1 AnyV a len c vs o) (hr : a = none ∨ 0 < c ∧ ∃ g, a = some ⟨g, 0, none⟩) (hle : len + n ≤ c') (e1 : len + n ≤ c → a' = a ∧ c' = c) (e2 : c < len + n → ∃ g, a' = some ⟨g, 0, none⟩) : a' = none ∨ 0 < c' ∧ ∃ g, a' = some ⟨g, 0, none⟩ := by
  by_cases hle' : len + n ≤ c
  · obtain ⟨rfl, rfl⟩ := e1 hle'
    exact hr
  · exact .inr ⟨by omega, e2 (by omega)⟩
theorem pushB0 {a : Option Addr} {len cap b n : Nat} {o : List Nat} {bs ws : List UInt8} (s : SlAt h T.uint8 1 AnyV a len cap (bvs bs) o) (hb : h b = none) (hw : ws.length = n) (hn : len + n < 2 ^ 32)
    (hk : ∀ a' cap' o' h', SlAt h' T.uint8 1 AnyV a' (len + n) cap' (bvs (bs ++ ws)) o' → Step o h o' h' → (len + n ≤ cap → a' = a ∧ cap' = cap) → (cap < len + n → ∃ g, a' = some ⟨g, 0, none⟩) → K (.slice a' (len + n) cap') h') :
    wpSem P (Builtin.append_ #[T.sl_uint8, T.sl_uint8] T.sl_uint8 #[.slice a len cap, .slice (some ⟨b, 0, none⟩) n n]) K (h.put b (.cells (bvs ws).toArray T.uint8 (0, 0))) := by
  have nb : ∀ k ∈ o, k ≠ b := fun k hk e => s.mem k hk (by rw [e]; exact hb)
  refine append_row (P := P) (Z := AnyV) (cs := bvs ws) (n := n) slU8 slU8.1 (s.keep fun k hk => put_ne (nb k hk)) (fun _ _ _ _ _ _ => trivial) (.some ⟨by simp [bvs_len, hw], fun j v hv => by rw [Addr.add_mk, cell_of put_self, Nat.zero_add]; exact hv⟩) bvs_cellish hn fun a' cap' o' h' s1 e1 e2 st => ?_
  rw [← bvs_app] at s1
  exact hk a' cap' o' h' s1 ((Step.put (.inr hb)).trans st) (fun hh => ⟨(e1 hh).1, (e1 hh).2.1⟩) e2
theorem writeByte_spec {b x : Nat} {bs : List UInt8} {o : List Nat} (B : BldAt h b bs o) (hx : x < 256) (hl : bs.length < 1000000) (hk : ∀ h' o', BldAt h' b (bs ++ [x.toUInt8]) o' → Step (o ++ [b]) h (o' ++ [b]) h' → K .nilIface h') : HC P strings_Builder_WriteByte.n #[.pointer (some ⟨b, 0, none⟩), .int .u8 (x : Int)] h K := by
  obtain ⟨p, a, c, B0, hp, sl, hn, hr⟩ := B
  refine strings_Builder_WriteByte.hc ?_
  unfold strings_Builder_WriteByte
  refine copyCheck_spec B0 hp ?_
  obtain ⟨h0, hh0⟩ : ∃ h0, h0 = h.put b (.cells #[.pointer (some ⟨b, 0, none⟩), .slice a bs.length c] T.strings_Builder (0, 0)) := ⟨_, rfl⟩
  rw [← hh0]
  have C0 : h0 b = some (.cells #[.pointer (some ⟨b, 0, none⟩), .slice a bs.length c] T.strings_Builder (0, 0)) := by rw [hh0, put_self]
  have s0 : SlAt h0 T.uint8 1 AnyV a bs.length c (bvs bs) o := sl.keep fun k hk => by rw [hh0, put_ne fun e => hn (by rw [← e]; exact hk)]
  have S0 : Step (o ++ [b]) h (o ++ [b]) h0 := by rw [hh0]; exact Step.put (.inl (by simp))
  unfold strings_Builder_WriteByte.k1
  simp only [someD_some, Addr.add_mk, Nat.zero_add]
  refine ⟨a, bs.length, c, by rw [cell_of C0]; rfl, fun b0 hb0 => ?_⟩
  have ex : (Array.mk [Value.int .u8 (x : Int)]) = (bvs [x.toUInt8]).toArray := by
    have : (x.toUInt8).toNat = x := by show x % 256 = x; omega
    simp [bvs, this]
  show wpSem P _ _ (h0.put b0 (.cells (Array.mk [Value.int .u8 (x : Int)]) T.uint8 (0, 0)))
  rw [ex]
  refine pushB0 s0 hb0 rfl (by omega) fun a' c' o' h' s1 st e1 e2 => ⟨_, _, _, rfl, ?_⟩
  unfold strings_Builder_WriteByte.k0
  simp only [someD_some, Addr.add_mk, Nat.zero_add]
  obtain ⟨q1, q2⟩ := BldAt.put hn C0 s1 (by simp) (room s0 hr s1.le_cap e1 e2) st
  have C1 : h' b = some (.cells #[.pointer (some ⟨b, 0, none⟩), .slice a bs.length c] T.strings_Builder (0, 0)) := st.block C0 hn
  exact ⟨⟨_, by rw [cell_of C1]; rfl⟩, frozen_of C1, hk _ o' q1 (S0.trans q2)⟩
theorem writeString_spec {b : Nat} {s : ByteArray} {bs : List UInt8} {o : List Nat} (B : BldAt h b bs o) (hl : bs.length + s.size < 1000000) (hk : ∀ h' o', BldAt h' b (bs ++ s.data.toList) o' → Step (o ++ [b]) h (o' ++ [b]) h' → K (.tuple #[.int .i64 (s.size : Int), .nilIface]) h') : HC P strings_Builder_WriteString.n #[.pointer (some ⟨b, 0, none⟩), .string s] h K := by
  obtain ⟨p, a, c, B0, hp, sl, hn, hr⟩ := B
  refine strings_Builder_WriteString.hc ?_
  unfold strings_Builder_WriteString
  refine copyCheck_spec B0 hp ?_
  obtain ⟨h0, hh0⟩ : ∃ h0, h0 = h.put b (.cells #[.pointer (some ⟨b, 0, none⟩), .slice a bs.length c] T.strings_Builder (0, 0)) := ⟨_, rfl⟩
  rw [← hh0]
  have C0 : h0 b = some (.cells #[.pointer (some ⟨b, 0, none⟩), .slice a bs.length c] T.strings_Builder (0, 0)) := by rw [hh0, put_self]
  have s0 : SlAt h0 T.uint8 1 AnyV a bs.length c (bvs bs) o := sl.keep fun k hk => by rw [hh0, put_ne fun e => hn (by rw [← e]; exact hk)]
  have S0 : Step (o ++ [b]) h (o ++ [b]) h0 := by rw [hh0]; exact Step.put (.inl (by simp))
  unfold strings_Builder_WriteString.k1
  simp only [someD_some, Addr.add_mk, Nat.zero_add]
  refine ⟨a, bs.length, c, by rw [cell_of C0]; rfl, ?_⟩
  refine append_str (P := P) (Z := AnyV) (n := s.size) (cs := bvs s.data.toList) slU8 (by kernel_rfl) s0 (fun _ _ _ _ _ _ => trivial) rfl rfl rfl (by omega) fun a' c' o' h' s1 e1 e2 st => ⟨_, _, _, rfl, ?_⟩
  unfold strings_Builder_WriteString.k0
  simp only [someD_some, Addr.add_mk, Nat.zero_add]
  rw [← bvs_app] at s1
  obtain ⟨q1, q2⟩ := BldAt.put hn C0 s1 (by rw [List.length_append]; rfl) (room s0 hr s1.le_cap (fun hh => ⟨(e1 hh).1, (e1 hh).2.1⟩) e2) st
  have C1 : h' b = some (.cells #[.pointer (some ⟨b, 0, none⟩), .slice a bs.length c] T.strings_Builder (0, 0)) := st.block C0 hn
  exact ⟨⟨_, by rw [cell_of C1]; rfl⟩, frozen_of C1, hk _ o' q1 (S0.trans q2)⟩
theorem wp_loadB {C : ByteArray → Hp → Prop} : ∀ (l : List UInt8) (a : Addr) (acc : ByteArray), (∀ (j : Nat) (x : UInt8), l[j]? = some x → h.cell? (a.add j) = some (.int .u8 (x.toNat : Int))) → C ⟨acc.data ++ l.toArray⟩ h → wpSem P (loadBytes a acc l.length) C h
  | [], a, acc, _, hk => by
    show C acc h
    simpa using hk
  | x :: l, a, acc, hc, hk => by
    have h0 : h.cell? a = some (.int .u8 (x.toNat : Int)) := by
      have := hc 0 x rfl
      rwa [show a.add 0 = a from rfl] at this
    have ad : ∀ j, (a.add 1).add j = a.add (j + 1) := fun j => by
      obtain ⟨b, o, s⟩ := a
      unfold Addr.add
      by_cases hj : j = 0
      · subst hj; simp
      · simp [hj]; omega
    have ih := wp_loadB (C := C) l (a.add 1) (acc.push x) (fun j y hy => by rw [ad]; exact hc (j + 1) y (by simpa using hy)) (by
      have e : (acc.push x).data ++ l.toArray = acc.data ++ (x :: l).toArray := by apply Array.ext'; simp [ByteArray.push]
      rw [e]; exact hk)
    show wpSem P (load a >>= _) C h
    refine ⟨_, h0, ?_⟩
    have ex : ((x.toNat : Int).toNat).toUInt8 = x := by simp
    show wpSem P (loadBytes (a.add 1) (acc.push ((x.toNat : Int).toNat).toUInt8) l.length) C h
    rw [ex]; exact ih
theorem freeze_off {h : Hp} {a : Addr} {n k : Nat} (hk : k ≠ a.block) : h.freeze a n k = h k := by
  unfold Hp.freeze
  by_cases e : n = 0
  · rw [if_pos e]
  · rw [if_neg e, if_neg hk]
theorem freeze_dom {h : Hp} {a : Addr} {n k : Nat} (hk : h k ≠ none) : h.freeze a n k ≠ none := by
  unfold Hp.freeze
  split
  · exact hk
  · split
    · cases e : h k with
      | none => exact absurd e hk
      | some o => simp
    · exact hk
theorem str_wp {C : Value → Hp → Prop} {b cap : Nat} {bs : List UInt8} {o : List Nat} (sl : SlAt h T.uint8 1 AnyV (some ⟨b, 0, none⟩) bs.length cap (bvs bs) o) (hl : bs.length < 1000000) (hk : ∀ h', Step o h o h' → C (.string ⟨bs.toArray⟩) h') :
    wpSem P (Builtin.unsafeString_ #[T.ptr_uint8, T.int] T.string #[.pointer (some ⟨b, 0, none⟩), .int .i64 (bs.length : Int)]) C h := by
  have hp : P.underlying T.ptr_uint8 = some (.pointer T.uint8) := by kernel_rfl
  have hM : IntKind.i64.max = 9223372036854775807 := rfl
  have hc1 : P.cellsOf T.uint8 = 1 := by kernel_rfl
  have hdef : Builtin.unsafeString_ #[T.ptr_uint8, T.int] T.string #[.pointer (some ⟨b, 0, none⟩), .int .i64 (bs.length : Int)] =
      (do
        let n ← asInt (.int .i64 (bs.length : Int))
        if n < 0 then runtimePanic (.error "unsafe.String: len out of range")
        if n > IntKind.i64.max then unsupported (.unsafePointer "String: a length above the largest int")
        if n = 0 then pure (.string .empty)
        else if ← variablesAt ⟨b, 0, none⟩ (← elemOf T.ptr_uint8) n.toNat then do
          let s ← loadBytes ⟨b, 0, none⟩ .empty n.toNat
          freeze ⟨b, 0, none⟩ n.toNat
          pure (.string s)
        else unsupported (.unsafePointer "String: not so many bytes at ptr")) := rfl
  rw [hdef]
  refine wpSem_bind _ _ _ _ (wp_pure (P := P) ?_)
  rw [if_neg (by omega), if_neg (by omega)]
  by_cases hz : bs.length = 0
  · rw [if_pos (by omega)]
    have : bs = [] := List.length_eq_zero_iff.1 hz
    subst this
    exact hk h (Step.refl _ _)
  rw [if_neg (by omega)]
  generalize hvs : bvs bs = vs at sl
  cases sl with
  | @some _ _ _ _ pre _ rest post hb hpre h1 h2 h3 h4 =>
    have hpre : pre = [] := List.length_eq_zero_iff.1 hpre
    subst hpre hvs
    refine wpSem_bind _ _ _ _ ?_
    unfold elemOf
    refine wpSem_bind _ _ _ _ (wp_underlying hp ?_)
    refine wp_pure (P := P) ?_
    have hsh : h.shape? b = some (T.uint8, (([] : List Value) ++ (bvs bs ++ (rest ++ post))).toArray.size) := by unfold Hp.shape?; rw [hb]
    have hn : bs.length ≤ (([] : List Value) ++ (bvs bs ++ (rest ++ post))).toArray.size := by simp [bvs_len]
    have hlies := Lib.liesAt_bytes (P := P) hc1 ((([] : List Value) ++ (bvs bs ++ (rest ++ post))).toArray.size / P.cellsOf T.uint8) bs.length (by rw [hc1]; simpa using hn)
    refine wpSem_bind _ _ _ _ ?_
    show wpSem P (match h.shape? b with | some (e, cells) => pure (liesAt P P.depth e (cells / P.cellsOf e) 0 T.uint8 bs.length) | none => pure false) _ h
    rw [hsh]
    show wpSem P (pure (liesAt P P.depth T.uint8 _ 0 T.uint8 bs.length) : Sem Bool) _ h
    rw [hlies]
    refine wp_pure (P := P) ?_
    rw [if_pos rfl]
    refine wpSem_bind _ _ _ _ ?_
    show wpSem P (loadBytes ⟨b, 0, none⟩ ByteArray.empty bs.length) _ h
    refine wp_loadB bs _ _ (fun j x hx => ?_) ?_
    · rw [Addr.add_mk, cell_of hb, get_mid (pre := []) (off := 0) rfl (by rw [bvs_len]; exact (List.getElem?_eq_some_iff.1 hx).1)]
      simp [bvs, hx]
    · have e : ((ByteArray.empty).data ++ bs.toArray) = bs.toArray := by
        show (#[] : Array UInt8) ++ bs.toArray = _
        simp
      rw [e]
      refine hk _ ⟨fun k hk hn => freeze_off fun e => hn (by simp [e]), fun k hk => .inl hk, fun k hk => freeze_dom hk⟩
/-- What it has, told: its row is frozen. -/
theorem bldString_spec {b : Nat} {bs : List UInt8} {o : List Nat} (B : BldAt h b bs o) (hl : bs.length < 1000000) (hk : ∀ h' o', Step (o ++ [b]) h o' h' → K (.string ⟨bs.toArray⟩) h') : HC P strings_Builder_String.n #[.pointer (some ⟨b, 0, none⟩)] h K := by
  obtain ⟨p, a, c, B0, hp, sl, hn, hr⟩ := B
  refine strings_Builder_String.hc ?_
  unfold strings_Builder_String
  have cc : h.cell? ⟨b, 1, none⟩ = some (.slice a bs.length c) := by rw [cell_of B0]; rfl
  simp only [someD_some, Addr.add_mk, Nat.zero_add]
  refine ⟨_, _, _, cc, _, _, _, cc, ?_⟩
  rcases hr with rfl | ⟨hc, g, rfl⟩
  · have hbs : bs = [] := by
      generalize hvs : bvs bs = vs at sl
      generalize hnn : bs.length = n at sl
      cases sl with
      | none => exact List.length_eq_zero_iff.1 hnn
    subst hbs
    show wpSem P (pure (.pointer none) : Sem Value) _ h
    refine wp_pure (P := P) ⟨none, rfl, ?_⟩
    unfold strings_Builder_String.k0
    simp only [Addr.add_mk, Nat.zero_add]
    refine ⟨⟨_, _, _, cc, rfl⟩, ?_⟩
    show wpSem P (Builtin.unsafeString_ #[T.ptr_uint8, T.int] T.string #[.pointer none, .int .i64 0]) _ h
    exact ⟨_, rfl, hk h o ((Step.refl (o ++ [b]) h).weak (fun _ h => h) fun k hk => .inr (.inl (by simp [hk])))⟩
  · obtain ⟨k, rfl⟩ : ∃ k, c = k + 1 := ⟨c - 1, by omega⟩
    show wpSem P (pure (.pointer (some ⟨g, 0, none⟩)) : Sem Value) _ h
    refine wp_pure (P := P) ⟨_, rfl, ?_⟩
    unfold strings_Builder_String.k0
    simp only [Addr.add_mk, Nat.zero_add]
    refine ⟨⟨_, _, _, cc, rfl⟩, ?_⟩
    refine str_wp sl hl fun h' S => ⟨_, rfl, hk h' (o ++ [b]) (S.frame [b])⟩
end Go.Den.Mon
end

section
set_option linter.unusedVariables false
set_option maxRecDepth 100000
namespace Go.Den.Mon
open Go Go.Den
variable {h : Hp} {K : Value → Hp → Prop}

/-! ### Places -/
def dn (k : Nat) : Nat := (if 4 < k then 1 else 0) + (if 6 < k then 1 else 0) + (if 8 < k then 1 else 0) + (if 10 < k then 1 else 0)
def at' (k : Nat) : Nat := 1 + 2 * k + dn k
def pos (k : Nat) : Nat := 1 + 2 * k + dn (k + 1)
theorem dn_le (k : Nat) : dn k ≤ 4 := by unfold dn; split <;> split <;> split <;> split <;> omega
theorem at_succ (k : Nat) : at' (k + 1) = pos k + 2 := by unfold at' pos; omega
theorem pos_dash {k : Nat} (hd : dash k = true) : pos k = at' k + 1 := by
  unfold dash at hd
  rcases of_decide_eq_true hd with rfl | rfl | rfl | rfl <;> rfl
theorem pos_plain {k : Nat} (hd : dash k = false) : pos k = at' k := by
  have hd := of_decide_eq_false hd
  unfold pos at' dn
  by_cases h1 : 4 < k
  · by_cases h2 : 6 < k
    · by_cases h3 : 8 < k
      · by_cases h4 : 10 < k
        · simp [h1, h2, h3, h4, show 4 < k + 1 by omega, show 6 < k + 1 by omega, show 8 < k + 1 by omega, show 10 < k + 1 by omega]
        · simp [h1, h2, h3, h4, show 4 < k + 1 by omega, show 6 < k + 1 by omega, show 8 < k + 1 by omega, show ¬ 10 < k + 1 by omega]
      · simp [h1, h2, h3, show ¬ 10 < k by omega, show 4 < k + 1 by omega, show 6 < k + 1 by omega, show ¬ 8 < k + 1 by omega, show ¬ 10 < k + 1 by omega]
    · simp [h1, h2, show ¬ 8 < k by omega, show ¬ 10 < k by omega, show 4 < k + 1 by omega, show ¬ 6 < k + 1 by omega, show ¬ 8 < k + 1 by omega, show ¬ 10 < k + 1 by omega]
  · simp [h1, show ¬ 6 < k by omega, show ¬ 8 < k by omega, show ¬ 10 < k by omega, show ¬ 4 < k + 1 by omega, show ¬ 6 < k + 1 by omega, show ¬ 8 < k + 1 by omega, show ¬ 10 < k + 1 by omega]
theorem pos_lt {k : Nat} (hk : k < 16) : pos k + 1 < 37 := by unfold pos; have := dn_le (k + 1); omega

/-! ### What is read -/
def by' (l : List UInt8) (p : Nat) : Nat := (l.getD p 0).toNat
def ok (l : List UInt8) (i : Nat) : Prop := 0 ≤ hv (by' l (pos i)) ∧ 0 ≤ hv (by' l (pos i + 1))
def val (l : List UInt8) (i : Nat) : Nat := (hv (by' l (pos i))).toNat * 16 + (hv (by' l (pos i + 1))).toNat
def part (l : List UInt8) (k : Nat) : List Nat := (List.range 16).map fun j => if j < k then val l j else 0
theorem by_lt (l : List UInt8) (p : Nat) : by' l p < 256 := by unfold by'; exact UInt8.toNat_lt _
theorem hv_lt (n : Nat) : hv n < 16 := by unfold hv; split; omega; split; omega; split <;> omega
theorem hv_ge (n : Nat) : -1 ≤ hv n := by unfold hv; split; omega; split; omega; split <;> omega
theorem val_lt (l : List UInt8) (i : Nat) : val l i < 256 := by
  unfold val
  have := hv_lt (by' l (pos i)); have := hv_lt (by' l (pos i + 1)); omega
theorem part_is (l : List UInt8) (k : Nat) : isG (part l k) := ⟨by simp [part], fun x hx => by
  unfold part at hx
  obtain ⟨j, -, rfl⟩ := List.mem_map.1 hx
  split
  · exact val_lt _ _
  · omega⟩
theorem part_zero (l : List UInt8) : gcs (part l 0) = zGuid := rfl
theorem part_set (l : List UInt8) {k : Nat} (hk : k < 16) : (part l k).set k (val l k) = part l (k + 1) := by
  apply List.ext_getElem?
  intro j
  rw [List.getElem?_set, (part_is l k).1]
  unfold part
  rw [List.getElem?_map, List.getElem?_map]
  by_cases hj : j < 16
  · rw [List.getElem?_range hj]
    simp only [Option.map_some]
    by_cases e : k = j
    · subst e; rw [if_pos rfl, if_pos hk, if_pos (by omega)]
    · rw [if_neg e]
      congr 1
      by_cases h1 : j < k
      · rw [if_pos h1, if_pos (by omega)]
      · rw [if_neg h1, if_neg (by omega)]
  · rw [if_neg (by omega), List.getElem?_eq_none (by simp; omega)]; rfl
theorem ba_get {s : ByteArray} {p : Nat} (hp : p < s.data.toList.length) : s[p]? = some (s.data.toList.getD p 0) := by
  have h1 : p < s.size := by rw [Lib.size_eq] at *; exact hp
  rw [getElem?_pos s p h1]
  have e : s[p] = s.data.toList[p] := rfl
  rw [e, List.getD, List.getElem?_eq_getElem hp]; rfl
theorem orB : ((List.range 16).all fun a => (List.range 16).all fun b => IntKind.wrap .u8 (bits .or .i64 (IntKind.wrap .i64 ((a : Int) * (2 ^ Min.min ((4 : Int).toNat) 64))) (b : Int)) == ((a * 16 + b : Nat) : Int)) = true := by decide +kernel
theorem or_b {a b : Int} (ha : 0 ≤ a) (ha' : a < 16) (hb : 0 ≤ b) (hb' : b < 16) : IntKind.wrap .u8 (bits .or .i64 (IntKind.wrap .i64 (a * (2 ^ Min.min ((4 : Int).toNat) 64))) b) = ((a.toNat * 16 + b.toNat : Nat) : Int) := by
  obtain ⟨x, rfl⟩ := Int.eq_ofNat_of_zero_le ha
  obtain ⟨y, rfl⟩ := Int.eq_ofNat_of_zero_le hb
  have := List.all_eq_true.1 (List.all_eq_true.1 orB x (List.mem_range.2 (by omega))) y (List.mem_range.2 (by omega))
  simpa using this

/-- What parsing takes. -/
def acc (l low : List UInt8) : Prop := l.length = 38 ∧ (∀ i < 16, ok l i) ∧ prL (part l 16) = low
theorem gfail {hh : Hp} {b0 : Nat} {v : Value} {C : Value → Hp → Prop} (B0 : hh b0 = some (.cells zGuid T.api_Guid (0, 0))) (hk : C (.tuple #[.agg zGuid, v]) hh) :
    True ∧ ((16 : Nat) = 16) ∧ (∀ v4 : Value, (v4 ∈ ([.int .u8 0, .int .u8 0, .int .u8 0, .int .u8 0, .int .u8 0, .int .u8 0, .int .u8 0, .int .u8 0, .int .u8 0, .int .u8 0, .int .u8 0, .int .u8 0, .int .u8 0, .int .u8 0, .int .u8 0, .int .u8 0] : List Value) → (Den.cellish v4) = Bool.true)) ∧ (Free hh ⟨b0, 0, none⟩ 16) ∧ (∃ cs2 : Array Value, (CellsAt (hh.setCells ⟨b0, 0, none⟩ zGuid) ⟨b0, 0, none⟩ 16 cs2) ∧ C (.tuple #[.agg cs2, v]) (hh.setCells ⟨b0, 0, none⟩ zGuid)) := by
  have e : hh.setCells ⟨b0, 0, none⟩ zGuid = hh := by rw [setCells_blk B0 rfl, put_id B0]
  refine ⟨trivial, rfl, by simp [cellish], free_blk B0 rfl, zGuid, ?_, ?_⟩
  · rw [e]; exact cellsAt_blk B0 rfl
  · rw [e]; exact hk
theorem gdone {hh : Hp} {b1 b0 : Nat} {g : List Nat} {v : Value} {C : Value → Hp → Prop} (hg : g.length = 16) (B1 : hh b1 = some (.cells (gcs g) T.api_Guid (0, 0))) (B0 : hh b0 = some (.cells zGuid T.api_Guid (0, 0))) (hk : C (.tuple #[.agg (gcs g), v]) (hh.put b0 (.cells (gcs g) T.api_Guid (0, 0)))) :
    (∃ cs4 : Array Value, (CellsAt hh ⟨b1, 0, none⟩ 16 cs4) ∧ (cs4.size = 16) ∧ (∀ v9 : Value, (v9 ∈ (Array.toList cs4 : List Value) → (Den.cellish v9) = Bool.true)) ∧ (Free hh ⟨b0, 0, none⟩ 16) ∧ (∃ cs5 : Array Value, (CellsAt (hh.setCells ⟨b0, 0, none⟩ cs4) ⟨b0, 0, none⟩ 16 cs5) ∧ C (.tuple #[.agg cs5, v]) (hh.setCells ⟨b0, 0, none⟩ cs4))) := by
  have hs : (gcs g).size = 16 := by rw [gcs_size, hg]
  refine ⟨_, cellsAt_blk B1 hs, hs, gcs_cellish, free_blk B0 rfl, ?_⟩
  rw [setCells_blk B0 (by rw [hs]; rfl)]
  exact ⟨_, cellsAt_blk put_self hs, hk⟩

def Low (s : ByteArray) (low : List UInt8) (h : Hp) : Prop := ∀ (h1 : Hp) (C : Value → Hp → Prop), Step [] h [] h1 → (∀ h', Step [] h1 [] h' → C (.string ⟨low.toArray⟩) h') → HC P strings_ToLower.n #[.string s] h1 C

theorem gParse_spec {s : ByteArray} {low : List UInt8} (hlow : s.data.toList.length = 38 → Low s low h)
    (k1 : acc s.data.toList low → ∀ h', Step [] h [] h' → K (.tuple #[.agg (gcs (part s.data.toList 16)), .int .i64 0]) h') (k0 : ¬ acc s.data.toList low → ∀ h', Step [] h [] h' → K (.tuple #[.agg zGuid, .int .i64 5]) h') :
    HC P guid_Parse.n #[.string s] h K := by
  generalize hl : s.data.toList = l at *
  have hsz : s.size = l.length := by rw [Lib.size_eq, hl]
  have sget : ∀ {p : Nat}, p < l.length → s[p]? = some (l.getD p 0) := fun {p} hp => by rw [ba_get (by rw [hl]; exact hp), hl]
  refine guid_Parse.hc ?_
  unfold guid_Parse
  intro b0 hb0 b1 hb1
  obtain ⟨n10, hb1'⟩ := put_none hb1
  have st : Step [] h [b1] ((h.put b0 (.cells zGuid T.api_Guid (0, 0))).put b1 (.cells zGuid T.api_Guid (0, 0))) := (Step.put (.inr hb0)).trans (Step.new hb1)
  have st0 : Step [] h [] ((h.put b0 (.cells zGuid T.api_Guid (0, 0))).put b1 (.cells zGuid T.api_Guid (0, 0))) := (Step.put (.inr hb0)).trans (Step.put (.inr hb1))
  have X0 : ((h.put b0 (.cells zGuid T.api_Guid (0, 0))).put b1 (.cells zGuid T.api_Guid (0, 0))) b0 = some (.cells zGuid T.api_Guid (0, 0)) := by rw [put_ne (Ne.symm n10), put_self]
  have X1 : ((h.put b0 (.cells zGuid T.api_Guid (0, 0))).put b1 (.cells zGuid T.api_Guid (0, 0))) b1 = some (.cells zGuid T.api_Guid (0, 0)) := put_self
  refine bcase_intro (fun hc => ?_) fun hc => ?_
  · have hne : l.length ≠ 38 := fun e => by rw [hsz, e] at hc; exact absurd hc (by decide)
    unfold guid_Parse.k0
    refine ⟨_, cellsAt_blk X1 rfl, rfl, by simp [cellish], free_blk X0 rfl, ?_⟩
    rw [setCells_blk X0 rfl, put_id X0]
    exact ⟨_, cellsAt_blk X0 rfl, k0 (fun a => hne a.1) _ st0⟩
  have h38 : l.length = 38 := by
    have : (s.size : Int) = 38 := by simpa using hc
    omega
  unfold guid_Parse.k18
  obtain ⟨I0, hI0⟩ : ∃ I0 : List Value → Hp → Prop, I0 = fun vs hh => ∃ (z : Int) (k : Nat), vs = [.int .i64 z, .int .i64 (at' k : Nat), .int .i64 (k : Int)] ∧ k ≤ 16 ∧ hh b1 = some (.cells (gcs (part l k)) T.api_Guid (0, 0)) ∧ hh b0 = some (.cells zGuid T.api_Guid (0, 0)) ∧ Step [] h [b1] hh ∧ ∀ i < k, ok l i := ⟨_, rfl⟩
  obtain ⟨x0, hx0⟩ : ∃ x0 : List Value → Hp → Nat, x0 = fun vs _ => match vs with | [_, _, .int _ i] => 16 - i.toNat | _ => 0 := ⟨_, rfl⟩
  refine ⟨I0, x0, by rw [hI0]; exact ⟨0, 0, rfl, by omega, by rw [part_zero]; exact X1, X0, st, by omega⟩, ?_⟩
  intro h0 z n1 n2 hin
  rw [hI0] at hin
  obtain ⟨z', k, he, hk16, B1, B0, stp, hok⟩ := hin
  cases he
  have st0' : Step [] h [] h0 := stp.forget0
  refine bcase_intro (fun hc => ?_) fun hc => ?_
  · have hc : k < 16 := by have := of_decide_eq_true hc; omega
    have hpl := pos_lt hc
    have bad : ¬ ok l k → guid_Parse.k1 h0 b0 K := fun hn => by
      unfold guid_Parse.k1
      exact gfail B0 (k0 (fun a => hn (a.2.1 k hc)) _ st0')
    have g1 := hv_lt (by' l (pos k)); have g2 := hv_lt (by' l (pos k + 1)); have g3 := hv_ge (by' l (pos k)); have g4 := hv_ge (by' l (pos k + 1))
    have w1 : IntKind.wrap .i64 ((k : Int) + 1) = ((k + 1 : Nat) : Int) := wrapN (by omega) (by omega)
    have nxt : ok l k → I0 [.int .i64 z, .int .i64 (at' (k + 1) : Nat), .int .i64 ((k + 1 : Nat) : Int)] (h0.setCell ⟨b1, k, none⟩ (.int .u8 (val l k : Nat))) := fun o => by
      rw [hI0]
      refine ⟨z, k + 1, rfl, by omega, ?_, by rw [setCell_ne (Ne.symm n10)]; exact B0, stp.trans (Step.setCell B1 (by simp)), fun i hi => ?_⟩
      · rw [setCell_blk B1, gcs_set, part_set l hc]
      · by_cases e : i = k
        · subst e; exact o
        · exact hok i (by omega)
    have cell : ∃ u0 : Value, h0.cell? ⟨b1, k, none⟩ = some u0 := ⟨_, by rw [cell_of B1, gcs_get]; rw [List.getElem?_eq_getElem (by rw [(part_is l k).1]; exact hc)]; rfl⟩
    have lesser : ∀ {m : Nat}, x0 [.int .i64 z, .int .i64 (at' (k + 1) : Nat), .int .i64 ((k + 1 : Nat) : Int)] (h0.setCell ⟨b1, k, none⟩ (.int .u8 (val l k : Nat))) < x0 [.int .i64 z, .int .i64 (m : Int), .int .i64 (k : Int)] h0 := fun {m} => by
      rw [hx0]
      show 16 - ((k + 1 : Nat) : Int).toNat < 16 - (k : Int).toNat
      omega
    unfold guid_Parse.k13
    refine dash_spec ⟨_, rfl, ?_⟩
    unfold guid_Parse.k12
    refine bcase_intro (fun hd => ?_) fun hd => ?_
    · have hp := pos_dash hd
      have a1 : IntKind.wrap .i64 ((at' k : Nat) + 1 : Int) = (pos k : Nat) := wrapN (by omega) (by omega)
      have a2 : IntKind.wrap .i64 ((pos k : Nat) + 1 : Int) = ((pos k + 1 : Nat) : Int) := wrapN (by omega) (by omega)
      have a3 : IntKind.wrap .i64 ((pos k : Nat) + 2 : Int) = (at' (k + 1) : Nat) := wrapN (by rw [at_succ]; omega) (by rw [at_succ]; omega)
      unfold guid_Parse.k6
      rw [a1, Int.toNat_natCast]
      refine ⟨by omega, _, sget (by omega), digit_spec (n := by' l (pos k)) (by_lt _ _) ⟨_, rfl, ?_⟩⟩
      unfold guid_Parse.k5
      rw [a1, a2, Int.toNat_natCast]
      refine ⟨by omega, _, sget (by omega), digit_spec (n := by' l (pos k + 1)) (by_lt _ _) ⟨_, rfl, ?_⟩⟩
      unfold guid_Parse.k4
      refine bcase_intro (fun e1 => bad fun o => ?_) fun e1 => ?_
      · have := of_decide_eq_true e1; have := o.1; omega
      unfold guid_Parse.k3
      refine bcase_intro (fun e2 => bad fun o => ?_) fun e2 => ?_
      · have := of_decide_eq_true e2; have := o.2; omega
      have e1 := of_decide_eq_false e1
      have e2 := of_decide_eq_false e2
      unfold guid_Parse.k2
      rw [a1, a3, w1, or_b (by omega) g1 (by omega) g2]
      simp only [Addr.add_mk, Int.toNat_natCast, Nat.mul_one, Nat.zero_add]
      exact ⟨by omega, by omega, by omega, cell, frozen_of B1, nxt ⟨by omega, by omega⟩, lesser⟩
    · have hp := pos_plain hd
      rw [← hp] at *
      have a2 : IntKind.wrap .i64 ((pos k : Nat) + 1 : Int) = ((pos k + 1 : Nat) : Int) := wrapN (by omega) (by omega)
      have a3 : IntKind.wrap .i64 ((pos k : Nat) + 2 : Int) = (at' (k + 1) : Nat) := wrapN (by rw [at_succ]; omega) (by rw [at_succ]; omega)
      unfold guid_Parse.k11
      rw [Int.toNat_natCast]
      refine ⟨by omega, _, sget (by omega), digit_spec (n := by' l (pos k)) (by_lt _ _) ⟨_, rfl, ?_⟩⟩
      unfold guid_Parse.k10
      rw [a2, Int.toNat_natCast]
      refine ⟨by omega, _, sget (by omega), digit_spec (n := by' l (pos k + 1)) (by_lt _ _) ⟨_, rfl, ?_⟩⟩
      unfold guid_Parse.k9
      refine bcase_intro (fun e1 => bad fun o => ?_) fun e1 => ?_
      · have := of_decide_eq_true e1; have := o.1; omega
      unfold guid_Parse.k8
      refine bcase_intro (fun e2 => bad fun o => ?_) fun e2 => ?_
      · have := of_decide_eq_true e2; have := o.2; omega
      have e1 := of_decide_eq_false e1
      have e2 := of_decide_eq_false e2
      unfold guid_Parse.k7
      rw [a3, w1, or_b (by omega) g1 (by omega) g2]
      simp only [Addr.add_mk, Int.toNat_natCast, Nat.mul_one, Nat.zero_add]
      exact ⟨by omega, by omega, by omega, cell, frozen_of B1, nxt ⟨by omega, by omega⟩, lesser⟩
  · have hc : k = 16 := by have := of_decide_eq_false hc; omega
    subst hc
    unfold guid_Parse.k17
    refine ⟨_, cellsAt_blk B1 (by rw [gcs_size, (part_is l 16).1]), gPrint_spec (part_is l 16) fun h6 s6 => ⟨_, rfl, ?_⟩⟩
    unfold guid_Parse.k16
    refine hlow h38 h6 _ (st0'.trans s6) fun h7 s7 => ⟨_, rfl, ?_⟩
    have S7 := s6.trans s7
    have B1 := S7.keepB0 B1
    have B0 := S7.keepB0 B0
    have hcmp : (ByteArray.toList (prS (part l 16)) == ByteArray.toList (⟨low.toArray⟩ : ByteArray)) = true ↔ prL (part l 16) = low := by
      rw [beq_iff_eq, ByteArray.toList_eq, ByteArray.toList_eq]
      unfold prS
      simp
    unfold guid_Parse.k15
    generalize (ByteArray.toList (prS (part l 16)) == ByteArray.toList (⟨low.toArray⟩ : ByteArray)) = d at hcmp ⊢
    refine bcase_intro (fun e => ?_) fun e => ?_
    · unfold guid_Parse.k1
      have hno : ¬ acc l low := fun a => by rw [hcmp.2 a.2.2] at e; cases e
      exact gfail B0 (k0 hno _ (st0'.trans S7))
    · unfold guid_Parse.k14
      have hacc : acc l low := ⟨h38, hok, hcmp.1 (by simpa using e)⟩
      refine gdone (part_is l 16).1 B1 B0 (k1 hacc _ ?_)
      exact ⟨fun k hk hn => by rw [put_ne (fun e => by subst e; exact hk hb0)]; exact (st0'.trans S7).keep k hk hn, fun k hk => by simp at hk, fun k hk => by unfold Hp.put; split <;> simp [(st0'.trans S7).dom k hk]⟩
end Go.Den.Mon
end

section
set_option linter.unusedVariables false
set_option maxRecDepth 100000
namespace Go.Den.Mon
open Go Go.Den
variable {h : Hp} {K : Value → Hp → Prop}
def spc (c : UInt8) : Bool := c == 33 || c == 58 || c == 64 || c == 46 || c == 92
def e1 (c : UInt8) : List UInt8 := if spc c then [92, c] else [c]
def esc (l : List UInt8) : List UInt8 := l.flatMap e1
def txt1 (r : Raw) : List UInt8 := if r.kind = 1 then 33 :: esc r.txt.data.toList else if r.kind = 2 then 58 :: prL r.id else if r.kind = 3 then 64 :: hf r.H 16 else [46]
def txtOf (l : List Raw) : List UInt8 := l.flatMap txt1
theorem esc_take {l : List UInt8} {j : Nat} {c : UInt8} (hc : l[j]? = some c) : esc (l.take (j + 1)) = esc (l.take j) ++ e1 c := by
  rw [List.take_add_one, hc]
  simp [esc]
theorem esc_len {l : List UInt8} : (esc l).length ≤ 2 * l.length := by
  induction l with
  | nil => simp [esc]
  | cons c l ih =>
    have : (e1 c).length ≤ 2 := by unfold e1; split <;> simp
    simp only [esc, List.flatMap_cons, List.length_append, List.length_cons] at ih ⊢
    omega
theorem prL_len {g : List Nat} : (prL g).length ≤ 100 := by
  have := pr_len (g := g) 16
  unfold prL; simp; omega
theorem txt1_len {r : Raw} (e : rpart r = true) : (txt1 r).length ≤ 600 := by
  unfold txt1
  split
  · rename_i hk
    unfold rpart at e
    rw [if_pos hk] at e
    have h2 := (of_decide_eq_true e).2.2.2
    have := esc_len (l := r.txt.data.toList)
    rw [Lib.size_eq] at h2
    simp; omega
  · split
    · have := prL_len (g := r.id); simp; omega
    · split
      · simp [hf_len]
      · simp
theorem txtOf_len {l : List Raw} (e : ∀ r ∈ l, rpart r = true) : (txtOf l).length ≤ 600 * l.length := by
  induction l with
  | nil => simp [txtOf]
  | cons r l ih =>
    have h1 := txt1_len (e r (by simp))
    have h2 := ih fun r hr => e r (by simp [hr])
    simp only [txtOf, List.flatMap_cons, List.length_append, List.length_cons] at h2 ⊢
    omega
theorem ba_some {s : ByteArray} {p : Nat} {c : UInt8} (hp : s.data.toList[p]? = some c) : s[p]? = some c := by
  have hl := (List.getElem?_eq_some_iff.1 hp).1
  rw [ba_get hl, List.getD_eq_getElem?_getD, hp]; rfl
theorem toU8 (c : UInt8) : c.toNat.toUInt8 = c := by simp
abbrev signs : ByteArray := ⟨#[33, 58, 64, 46]⟩
theorem idx_signs : ((List.range 256).all fun n => decide (0 ≤ Lib.indexByte signs.data.toList n.toUInt8) == (spc n.toUInt8 && !(n == 92))) = true := by decide +kernel
theorem idx_sign (c : UInt8) : decide (0 ≤ Lib.indexByte signs.data.toList c) = (spc c && !(c.toNat == 92)) := by
  have := List.all_eq_true.1 idx_signs c.toNat (List.mem_range.2 (UInt8.toNat_lt c))
  rw [beq_iff_eq, toU8] at this
  exact this
/-- Inside the body: what was written, the loop's record, the part. -/
structure PB (h2 : Hp) (b1 l0 b2 : Nat) (x : Raw) (R0 : Rec) (o0 : List Nat) (bs : List UInt8) (o : List Nat) (hh : Hp) : Prop where
  B : BldAt hh b1 bs o
  L : hh l0 = some R0.busy
  M : MB hh b2 x
  nl : l0 ∉ o
  nb : b2 ∉ o
  lb : l0 ≠ b1
  b2b : b2 ≠ b1
  st : Step (o0 ++ [b1, l0]) h2 (o ++ [b1, l0]) hh
section
variable {h2 hh : Hp} {b1 l0 b2 : Nat} {x : Raw} {R0 : Rec} {o0 o : List Nat} {bs : List UInt8} {C : Value → Hp → Prop}
theorem PB.next {h' : Hp} {o' : List Nat} {bs' : List UInt8} (w : PB h2 b1 l0 b2 x R0 o0 bs o hh) (B' : BldAt h' b1 bs' o') (s : Step (o ++ [b1]) hh (o' ++ [b1]) h') : PB h2 b1 l0 b2 x R0 o0 bs' o' h' := by
  have stay : ∀ q, hh q ≠ none → q ∉ o → q ≠ b1 → q ∉ o' := fun q hq h1 h2 hm => by
    rcases s.own q (by simp [hm]) with z | z
    · simp at z; rcases z with z | z
      · exact h1 z
      · exact h2 z
    · exact hq z
  refine ⟨B', ?_, ?_, stay l0 (by rw [w.L]; simp) w.nl w.lb, stay b2 (by rw [w.M]; simp) w.nb w.b2b, w.lb, w.b2b, ?_⟩
  · rw [s.keep l0 (by rw [w.L]; simp) (by simp [w.nl, w.lb])]; exact w.L
  · show _ = _
    rw [s.keep b2 (by rw [w.M]; simp) (by simp [w.nb, w.b2b])]; exact w.M
  · exact w.st.trans (by simpa using s.frame [l0])
theorem PB.pure {h' : Hp} (w : PB h2 b1 l0 b2 x R0 o0 bs o hh) (s : Step [] hh [] h') : PB h2 b1 l0 b2 x R0 o0 bs o h' :=
  w.next (w.B.step s (by simp) (by simp)) (by simpa using s.frame (o ++ [b1]))
theorem PB.byte (w : PB h2 b1 l0 b2 x R0 o0 bs o hh) (c : UInt8) (hl : bs.length < 1000000) (hk : ∀ h' o', PB h2 b1 l0 b2 x R0 o0 (bs ++ [c]) o' h' → C .nilIface h') : HC P strings_Builder_WriteByte.n #[.pointer (some ⟨b1, 0, none⟩), .int .u8 (c.toNat : Int)] hh C :=
  writeByte_spec w.B (UInt8.toNat_lt c) hl fun h' o' B' s => hk h' o' (w.next (by rw [toU8] at B'; exact B') s)
theorem PB.str (w : PB h2 b1 l0 b2 x R0 o0 bs o hh) (s : ByteArray) (hl : bs.length + s.size < 1000000) (hk : ∀ h' o', PB h2 b1 l0 b2 x R0 o0 (bs ++ s.data.toList) o' h' → C (.tuple #[.int .i64 (s.size : Int), .nilIface]) h') : HC P strings_Builder_WriteString.n #[.pointer (some ⟨b1, 0, none⟩), .string s] hh C :=
  writeString_spec w.B hl fun h' o' B' s' => hk h' o' (w.next B' s')
end
/-- The text of an item. -/
theorem prText {h2 hh : Hp} {b1 l0 b2 : Nat} {x : Raw} {R0 : Rec} {o0 o : List Nat} {bs : List UInt8} {K0 : Value → Hp → Prop} (k : x.Ok) (w : PB h2 b1 l0 b2 x R0 o0 bs o hh) (hl : bs.length + 2 * x.txt.data.toList.length < 900000)
    (hk : ∀ h' o', PB h2 b1 l0 b2 x R0 o0 (bs ++ esc x.txt.data.toList) o' h' → K0 (.bool true) (h'.put l0 R0.ready)) : moniker_Print.k8 hh b2 b1 l0 R0 K0 := by
  unfold moniker_Print.k8
  simp only [Addr.add_mk, Nat.zero_add]
  obtain ⟨I0, hI0⟩ : ∃ I0 : List Value → Hp → Prop, I0 = fun vs h' => ∃ (j : Nat) (o' : List Nat), vs = [.int .i64 (j : Int)] ∧ j ≤ x.txt.data.toList.length ∧ PB h2 b1 l0 b2 x R0 o0 (bs ++ esc (x.txt.data.toList.take j)) o' h' := ⟨_, rfl⟩
  obtain ⟨x0, hx0⟩ : ∃ x0 : List Value → Hp → Nat, x0 = fun vs _ => match vs with | [.int _ i] => x.txt.data.toList.length - i.toNat | _ => 0 := ⟨_, rfl⟩
  have es : x.txt.size = x.txt.data.toList.length := Lib.size_eq _
  refine ⟨_, w.M.txt k, I0, x0, by rw [hI0]; exact ⟨0, o, rfl, by omega, by simpa [esc] using w⟩, ?_⟩
  intro h4 n3 hin
  rw [hI0] at hin
  obtain ⟨j, o', he, hj, w4⟩ := hin
  have en : n3 = (j : Int) := by cases he; rfl
  clear he
  subst en
  refine bcase_intro (fun hc => ?_) fun hc => ?_
  · have hc : j < x.txt.data.toList.length := by have := of_decide_eq_true hc; omega
    obtain ⟨c, hcc⟩ : ∃ c, x.txt.data.toList[j]? = some c := ⟨_, List.getElem?_eq_getElem hc⟩
    have ll : (bs ++ esc (x.txt.data.toList.take j)).length < 900000 := by
      have := esc_len (l := x.txt.data.toList.take j)
      rw [List.length_take] at this
      rw [List.length_append]; omega
    have et := esc_take hcc
    have fin : ∀ h6 o6, PB h2 b1 l0 b2 x R0 o0 (bs ++ esc (x.txt.data.toList.take j) ++ e1 c) o6 h6 → moniker_Print.k0 I0 (j : Int) h6 x0 h4 := fun h6 o6 w6 => by
      unfold moniker_Print.k0
      have hj2 := k.txt
      rw [wrapN (m := j + 1) (by simp) (by omega)]
      refine ⟨?_, ?_⟩
      · rw [hI0]
        exact ⟨j + 1, o6, rfl, by omega, by rw [et, ← List.append_assoc]; exact w6⟩
      · rw [hx0]
        show x.txt.data.toList.length - ((j + 1 : Nat) : Int).toNat < x.txt.data.toList.length - (j : Int).toNat
        omega
    -- the two bytes
    have two : spc c = true → HC P strings_Builder_WriteByte.n #[.pointer (some ⟨b1, 0, none⟩), .int .u8 92] h4 (fun v5 h5 => (∃ v6 : Value, (v5 = v6) ∧ (∃ s2 : ByteArray, ((h5.cell? ⟨b2, 17, none⟩) = (some (.string s2))) ∧ (moniker_Print.k1 (j : Int) s2 b1 h5 I0 x0 h4)))) := fun hs => by
      refine w4.byte 92 (by omega) fun h5 o5 w5 => ⟨_, rfl, _, w5.M.txt k, ?_⟩
      unfold moniker_Print.k1
      rw [Int.toNat_natCast]
      refine ⟨by omega, c, ba_some hcc, w5.byte c (by simp at ll ⊢; omega) fun h6 o6 w6 => ⟨_, rfl, fin h6 o6 ?_⟩⟩
      have : e1 c = [92, c] := by unfold e1; rw [if_pos hs]
      rw [this]
      simpa using w6
    unfold moniker_Print.k7
    simp only [Addr.add_mk, Nat.zero_add]
    rw [Int.toNat_natCast]
    refine ⟨_, w4.M.txt k, by omega, c, ba_some hcc, bcase_intro (fun d => ?_) fun d => ?_⟩
    · unfold moniker_Print.k2
      simp only [Addr.add_mk, Nat.zero_add]
      refine two ?_
      have d : (c.toNat : Int) = 92 := by simpa using d
      have : c = 92 := by rw [← toU8 c, show c.toNat = 92 by omega]; rfl
      rw [this]; rfl
    · have d : ¬ c.toNat = 92 := fun q => by rw [q] at d; simp at d
      unfold moniker_Print.k6
      refine sIndex_spec ⟨_, rfl, ?_⟩
      rw [toU8]
      have ix := idx_sign c
      rw [show (c.toNat == 92) = false by simpa using d, Bool.not_false, Bool.and_true] at ix
      unfold moniker_Print.k5
      rw [ix]
      refine bcase_intro (fun hs => ?_) fun hs => ?_
      · unfold moniker_Print.k3
        simp only [Addr.add_mk, Nat.zero_add]
        exact two hs
      · unfold moniker_Print.k4
        simp only [Addr.add_mk, Nat.zero_add]
        rw [Int.toNat_natCast]
        refine ⟨_, w4.M.txt k, by omega, c, ba_some hcc, w4.byte c (by omega) fun h6 o6 w6 => ⟨_, rfl, fin h6 o6 ?_⟩⟩
        have : e1 c = [c] := by unfold e1; rw [if_neg (by simp [hs])]
        rw [this]; exact w6
  · have hc : j = x.txt.data.toList.length := by have := of_decide_eq_false hc; omega
    rw [hc, List.take_length] at w4
    exact ⟨w4.L, hk h4 o' w4⟩
end Go.Den.Mon
end

section
set_option linter.unusedVariables false
set_option maxRecDepth 100000
namespace Go.Den.Mon
open Go Go.Den
variable {h : Hp} {K : Value → Hp → Prop}
theorem hf16 {n d : Nat} (hd : d ≤ 16) (hn : n < 16 ^ d) : Lib.repeatL [(48 : UInt8)] (16 - d) ++ hf n d = hf n 16 := by
  have := hf_pad hn (e := 16 - d)
  rw [show d + (16 - d) = 16 by omega] at this
  rw [this, repL]
theorem prBody {g h2 : Hp} {b1 l0 : Nat} {x : Raw} {bs : List UInt8} {o : List Nat} {R0 : Rec} {K0 : Value → Hp → Prop} (en : Env g) (sg : Step [] g (o ++ [b1, l0]) h2) (k : x.Ok) (rp : rpart x = true) (B : BldAt h2 b1 bs o) (hl : h2 l0 = some R0.ready) (nl0 : l0 ∉ o) (nlb : l0 ≠ b1) (hn : bs.length < 100000)
    (hk : ∀ o' h', BldAt h' b1 (bs ++ txt1 x) o' → h' l0 = some R0.ready → l0 ∉ o' → Step (o ++ [b1, l0]) h2 (o' ++ [b1, l0]) h' → K0 (.bool true) h') :
    ∀ b2 : Nat, h2 b2 = none → ((mc x).toArray.size = 20) ∧ (∀ v2 : Value, (v2 ∈ (Array.toList (mc x).toArray : List Value) → (Den.cellish v2) = Bool.true)) ∧ (Free (h2.put b2 (.cells zMon T.api_Moniker (0, 0))) ⟨b2, 0, none⟩ 20) ∧ ((((h2.put b2 (.cells zMon T.api_Moniker (0, 0))).setCells ⟨b2, 0, none⟩ (mc x).toArray) l0) = (some R0.ready)) ∧
      (∃ n1 : Int, (((((h2.put b2 (.cells zMon T.api_Moniker (0, 0))).setCells ⟨b2, 0, none⟩ (mc x).toArray).put l0 R0.busy).cell? ((⟨b2, 0, none⟩ : Addr).add 0)) = (some (.int .i64 n1))) ∧ ((0 : Int) ≤ (IntKind.wrap .i64 (n1 - 1))) ∧ (∃ b3 : UInt8, (((⟨#[33, 58, 64, 46]⟩ : ByteArray)[(IntKind.wrap .i64 (n1 - 1)).toNat]?) = (some b3)) ∧ HC P strings_Builder_WriteByte.n #[.pointer (some ⟨b1, 0, none⟩), .int .u8 (b3.toNat : Int)] (((h2.put b2 (.cells zMon T.api_Moniker (0, 0))).setCells ⟨b2, 0, none⟩ (mc x).toArray).put l0 R0.busy)
        (fun v3 h3 => (∃ v4 : Value, (v3 = v4) ∧ (∃ n2 : Int, ((h3.cell? ((⟨b2, 0, none⟩ : Addr).add 0)) = (some (.int .i64 n2))) ∧ (moniker_Print.k16 n2 h3 b2 b1 l0 R0 K0)))))) := by
  intro b2 hb2
  have om : ∀ q ∈ o, h2 q ≠ none := by
    obtain ⟨_, _, _, _, _, s, _, _⟩ := B
    exact s.mem
  have n20 : b2 ≠ l0 := fun q => by rw [q, hl] at hb2; cases hb2
  have n2b : b2 ≠ b1 := fun q => B.mem (by rw [← q]; exact hb2)
  have n2o : b2 ∉ o := fun q => om b2 q hb2
  obtain ⟨X, hX⟩ : ∃ X, X = (h2.put b2 (.cells (mc x).toArray T.api_Moniker (0, 0))).put l0 R0.busy := ⟨_, rfl⟩
  have e2 := newM k hb2
  have Xl : X l0 = some R0.busy := by rw [hX, put_self]
  have X2 : MB X b2 x := by rw [hX]; show _ = _; rw [put_ne n20, put_self]
  have sX : Step (b2 :: [l0]) h2 (b2 :: [l0]) X := by rw [hX]; exact (Step.put (.inl (by simp))).trans (Step.put (.inl (by simp)))
  have SX : Step (o ++ [b1, l0]) h2 (o ++ [b1, l0]) X := by rw [hX]; exact (Step.put (.inr hb2)).trans (Step.put (.inl (by simp)))
  have XB : BldAt X b1 bs o := B.step sX (by simp [Ne.symm n2b, Ne.symm nlb]) fun q hq => by
    simp only [List.mem_cons, List.not_mem_nil, or_false, not_or]
    exact ⟨fun z => n2o (by rw [← z]; exact hq), fun z => nl0 (by rw [← z]; exact hq)⟩
  rw [e2, ← hX]
  have w : PB h2 b1 l0 b2 x R0 o bs o X := ⟨XB, Xl, X2, nl0, n2o, nlb, n2b, SX⟩
  have fin : ∀ h' o', PB h2 b1 l0 b2 x R0 o (bs ++ txt1 x) o' h' → K0 (.bool true) (h'.put l0 R0.ready) := fun h' o' w' => by
    refine hk o' _ (w'.B.step (own := [l0]) (Step.put (.inl (by simp))) (by simp [Ne.symm nlb]) fun q hq => ?_) put_self w'.nl (w'.st.trans (Step.put (.inl (by simp))))
    simp only [List.mem_cons, List.not_mem_nil, or_false]
    exact fun z => w'.nl (by rw [← z]; exact hq)
  have lx : bs.length + (txt1 x).length < 200000 := by have := txt1_len rp; omega
  have one : ∀ (c : UInt8), (∀ h3 o3, PB h2 b1 l0 b2 x R0 o (bs ++ [c]) o3 h3 → moniker_Print.k16 x.kind h3 b2 b1 l0 R0 K0) → HC P strings_Builder_WriteByte.n #[.pointer (some ⟨b1, 0, none⟩), .int .u8 (c.toNat : Int)] X
        (fun v3 h3 => (∃ v4 : Value, (v3 = v4) ∧ (∃ n2 : Int, ((h3.cell? ((⟨b2, 0, none⟩ : Addr).add 0)) = (some (.int .i64 n2))) ∧ (moniker_Print.k16 n2 h3 b2 b1 l0 R0 K0)))) := fun c hc =>
    w.byte c (by omega) fun h3 o3 w3 => ⟨_, rfl, _, by rw [Addr.add_mk]; exact w3.M.kind, hc h3 o3 w3⟩
  refine ⟨by simpa using mc_len k, mc_cellish, freeM, by rw [put_ne (Ne.symm n20)]; exact hl, x.kind, by rw [Addr.add_mk]; exact X2.kind, ?_⟩
  rcases rp_kind rp with q | q | q | q
  · have et : txt1 x = 33 :: esc x.txt.data.toList := by unfold txt1; rw [if_pos q]
    rw [et] at fin
    have hz : x.txt.data.toList.length ≤ 256 := by
      unfold rpart at rp
      rw [if_pos q] at rp
      have := (of_decide_eq_true rp).2.2.2
      rwa [Lib.size_eq] at this
    refine ⟨by rw [q]; decide +kernel, 33, by rw [q]; decide +kernel, one 33 fun h3 o3 w3 => ?_⟩
    unfold moniker_Print.k16
    refine bcT (by rw [q]; rfl) ?_
    refine prText k w3 (by rw [List.length_append, List.length_singleton]; omega) fun h' o' w' => fin h' o' ?_
    simpa using w'
  · have et : txt1 x = 58 :: prL x.id := by unfold txt1; rw [if_neg (by omega), if_pos q]
    rw [et] at fin
    refine ⟨by rw [q]; decide +kernel, 58, by rw [q]; decide +kernel, one 58 fun h3 o3 w3 => ?_⟩
    unfold moniker_Print.k16
    refine bcF (by rw [q]; rfl) ?_
    unfold moniker_Print.k15
    refine bcT (by rw [q]; rfl) ?_
    unfold moniker_Print.k10
    rw [Addr.add_mk]
    refine ⟨_, w3.M.id k, gPrint_spec k.id fun h4 s4 => ⟨_, rfl, ?_⟩⟩
    have w4 := w3.pure s4
    unfold moniker_Print.k9
    have := prL_len (g := x.id)
    refine w4.str (prS x.id) (by unfold prS; rw [Lib.size_eq]; simp; omega) fun h5 o5 w5 => ⟨_, _, rfl, w5.L, fin h5 o5 ?_⟩
    simpa [prS] using w5
  · have et : txt1 x = 64 :: hf x.H 16 := by unfold txt1; rw [if_neg (by omega), if_neg (by omega), if_pos q]
    rw [et] at fin
    refine ⟨by rw [q]; decide +kernel, 64, by rw [q]; decide +kernel, one 64 fun h3 o3 w3 => ?_⟩
    unfold moniker_Print.k16
    refine bcF (by rw [q]; rfl) ?_
    unfold moniker_Print.k15
    refine bcF (by rw [q]; rfl) ?_
    unfold moniker_Print.k14
    refine bcT (by rw [q]; rfl) ?_
    unfold moniker_Print.k13
    rw [Addr.add_mk]
    refine ⟨_, w3.M.H k, fmt_spec (en.step (sg.trans w3.st)) k.H fun d h4 d1 d2 d3 s4 => ⟨_, rfl, ?_⟩⟩
    have w4 := w3.pure s4
    have sz : ((⟨(hf x.H d).toArray⟩ : ByteArray).size : Int) = (d : Int) := by rw [Lib.size_eq]; simp [hf_len]
    unfold moniker_Print.k12
    rw [sz, wrapN (m := 16 - d) (by omega) (by omega)]
    refine repeat_spec (by omega) fun h5 s5 => ⟨_, rfl, ?_⟩
    have w5 := w4.pure s5
    have cat : (⟨(Array.mk (Array.toList (ByteArray.data ⟨(Lib.repeatL [(48 : UInt8)] (16 - d)).toArray⟩) ++ Array.toList (ByteArray.data ⟨(hf x.H d).toArray⟩)))⟩ : ByteArray) = ⟨(hf x.H 16).toArray⟩ := by
      rw [← hf16 d2 d3]
    unfold moniker_Print.k11
    rw [cat]
    refine ⟨?_, w5.str _ (by rw [Lib.size_eq]; simp [hf_len]; omega) fun h6 o6 w6 => ⟨_, _, rfl, w6.L, fin h6 o6 ?_⟩⟩
    · rw [Lib.size_eq, Lib.size_eq]
      simp [hf_len, repL]; omega
    · simpa using w6
  · have et : txt1 x = [46] := by unfold txt1; rw [if_neg (by omega), if_neg (by omega), if_neg (by omega)]
    rw [et] at fin
    refine ⟨by rw [q]; decide +kernel, 46, by rw [q]; decide +kernel, one 46 fun h3 o3 w3 => ?_⟩
    unfold moniker_Print.k16
    refine bcF (by rw [q]; rfl) ?_
    unfold moniker_Print.k15
    refine bcF (by rw [q]; rfl) ?_
    unfold moniker_Print.k14
    exact bcF (by rw [q]; rfl) ⟨w3.L, fin h3 o3 w3⟩
theorem Print_spec (en : Env h) {x : Raw} {rows : List Raw} {m : Mon} (t : Top h x rows m) (hk : rright x rows = true → ∀ h', Step [] h [] h' → K (.tuple #[.string ⟨(txtOf (partsOf x rows)).toArray⟩, .int .i64 0]) h')
    (hx : rright x rows = false → ∀ h', Step [] h [] h' → K (.tuple #[.string (⟨#[]⟩ : ByteArray), .int .i64 5]) h') : HC P moniker_Print.n #[.agg (mc x).toArray] h K := by
  have k := t.deep.ok
  refine moniker_Print.hc ?_
  unfold moniker_Print
  intro b0 hb0
  have S0 : Step [] h [] (h.put b0 (.cells (mc x).toArray T.api_Moniker (0, 0))) := Step.put (.inr hb0)
  have M0 : MB (h.put b0 (.cells (mc x).toArray T.api_Moniker (0, 0))) b0 x := put_self
  refine ⟨_, M0.all k, Check_spec (t.step S0) fun h0 s0 => ⟨_, rfl, ?_⟩⟩
  have S0 := S0.trans s0
  have M0 := M0.step s0
  unfold moniker_Print.k20
  cases hr : rright x rows with
  | false =>
    rw [if_neg (by simp)]
    exact bcT rfl (hx hr h0 S0)
  | true =>
    rw [if_pos rfl]
    refine bcF rfl ?_
    unfold moniker_Print.k19
    intro b1 hb1
    have n01 : b0 ≠ b1 := fun q => by rw [← q, M0] at hb1; cases hb1
    refine ⟨_, (show MB _ b0 x by show _ = _; rw [put_ne n01]; exact M0).all k, ?_⟩
    refine moniker_Parts.hc ?_
    unfold moniker_Parts
    intro bF hbF
    refine ⟨_, _, _, rfl, ?_⟩
    unfold moniker_Print.k18
    refine trueD_intro (by kernel_rfl) ?_
    intro l0 R0 hl0 hyall
    obtain ⟨H1, hH1⟩ : ∃ H1, H1 = (((h0.put b1 (.cells #[.pointer none, .slice none 0 0] T.strings_Builder (0, 0))).put bF (.cells (mc x).toArray T.api_Moniker (0, 0))).put l0 R0.ready) := ⟨_, rfl⟩
    have nlF : l0 ≠ bF := fun q => by rw [q, put_self] at hl0; cases hl0
    have nF1 : bF ≠ b1 := fun q => by rw [q, put_self] at hbF; cases hbF
    have nl1 : l0 ≠ b1 := fun q => by rw [q, put_ne (Ne.symm nF1), put_self] at hl0; cases hl0
    have fl : h0 l0 = none := by rw [put_ne nlF, put_ne nl1] at hl0; exact hl0
    have fF : h0 bF = none := by rw [put_ne nF1] at hbF; exact hbF
    have S1 : Step [] h0 [b1, l0] H1 := by
      rw [hH1]
      exact (((Step.put (.inr hb1)).trans (Step.put (.inr hbF))).trans (Step.put (.inr hl0))).weak (fun _ z => z) fun q hq => by
        simp at hq
        rcases hq with rfl | rfl
        · exact .inr (.inr hb1)
        · exact .inr (.inr fl)
    have HF : MB H1 bF x := by rw [hH1]; show _ = _; rw [put_ne (Ne.symm nlF), put_self]
    have HL : H1 l0 = some R0.ready := by rw [hH1, put_self]
    have HB : BldAt H1 b1 [] [] := by
      have B0 : BldAt (h0.put b1 (.cells #[.pointer none, .slice none 0 0] T.strings_Builder (0, 0))) b1 [] [] := BldAt.new hb1
      rw [hH1]
      exact B0.step (own := [bF, l0]) ((Step.put (.inl (by simp))).trans (Step.put (.inl (by simp)))) (by simp [Ne.symm nF1, Ne.symm nl1]) (by simp)
    have T0 : Top h0 x rows m := t.step S0
    have rps : ∀ r ∈ prt x rows, rpart r = true := by rw [prt_right hr]; exact parts_rp hr
    have pl : (prt x rows).length ≤ 64 := by rw [prt_right hr]; exact parts_len t hr
    have tl : ∀ i, (txtOf ((prt x rows).take i)).length ≤ 40000 := fun i => by
      have := txtOf_len (l := (prt x rows).take i) fun r hr => rps r (List.mem_of_mem_take hr)
      rw [List.length_take] at this
      omega
    refine partsIt_spec (l0 := l0) (bF := bF) (h := ((h0.put b1 (.cells #[.pointer none, .slice none 0 0] T.strings_Builder (0, 0))).put bF (.cells (mc x).toArray T.api_Moniker (0, 0))).put l0 R0.ready) (m := m) (by rw [← hH1]; exact T0.step S1.forget0) (by rw [← hH1]; exact HF)
      (fun i hh => ∃ o1, BldAt hh b1 (txtOf ((prt x rows).take i)) o1 ∧ hh l0 = some R0.ready ∧ l0 ∉ o1 ∧ Step [b1, l0] H1 (o1 ++ [b1, l0]) hh) (fun _ => False) ?_ ?_ ?_ ?_ ?_ (fun _ z => z.elim)
    · rw [← hH1]
      exact ⟨[], by simpa [txtOf] using HB, HL, by simp, Step.refl _ _⟩
    · rintro i hh hh' ⟨o1, g1, g2, g3, g4⟩ st
      exact ⟨o1, g1.step st (by simp) (by simp), by rw [st.keep l0 (by rw [g2]; simp) (by simp)]; exact g2, g3, g4.trans (by simpa using st.frame (o1 ++ [b1, l0]))⟩
    · rintro i hh ⟨o1, g1, g2, g3, g4⟩
      rw [← hH1]
      refine ⟨g4.keep bF (by rw [HF]; simp) (by simp [nF1, Ne.symm nlF]), fun q eq en hq => g4.keep _ hq ?_⟩
      have d := T0.blk q eq en
      have d1 : q.block ≠ b1 := fun z => d (by rw [z]; exact hb1)
      have d2 : q.block ≠ l0 := fun z => d (by rw [z]; exact fl)
      simp [d1, d2]
    · rintro i r hh C hi ⟨o1, g1, g2, g3, g4⟩ yes no
      have mr := List.mem_of_getElem? hi
      refine hyall (mc r).toArray hh C g2 ?_
      refine prBody (g := h) en (S0.trans (S1.trans g4)) (prt_ok T0 r mr) (rps r mr) g1 g2 g3 nl1 (by have := tl i; omega) fun o' h' q1 q2 q3 q4 => yes h' ⟨o', ?_, q2, q3, g4.trans q4⟩
      rw [List.take_add_one, hi]
      simpa [txtOf] using q1
    · rintro hh ⟨o1, g1, g2, g3, g4⟩
      rw [List.take_length] at g1
      unfold moniker_Print.k17
      refine .inl ⟨g2, ?_⟩
      have B' : BldAt (hh.put l0 R0.over) b1 (txtOf (prt x rows)) o1 := g1.step (own := [l0]) (Step.put (.inl (by simp))) (by simp [Ne.symm nl1]) fun q hq => by
        simp only [List.mem_cons, List.not_mem_nil, or_false]
        exact fun z => g3 (by rw [← z]; exact hq)
      refine bldString_spec B' (by have := tl (prt x rows).length; rw [List.take_length] at this; omega) fun h' o' s' => ⟨_, rfl, ?_⟩
      rw [prt_right hr]
      refine hk hr h' ?_
      have st : Step [] h0 (o1 ++ [b1] ++ [l0]) (hh.put l0 R0.over) := by simpa using (S1.trans g4).trans (Step.put (.inl (by simp)))
      exact (S0.trans (st.trans (s'.frame [l0]))).forget0
end Go.Den.Mon
end

section
set_option linter.unusedVariables false
set_option maxRecDepth 100000
namespace Go.Den.Mon
open Go Go.Den
variable {h : Hp} {K : Value → Hp → Prop}
theorem spc_all : ((List.range 256).all fun n => spc n.toUInt8 == (n == 33 || n == 58 || n == 64 || n == 46 || n == 92)) = true := by decide +kernel
theorem spc_eq (c : UInt8) : spc c = (c.toNat == 33 || c.toNat == 58 || c.toNat == 64 || c.toNat == 46 || c.toNat == 92) := by
  have := List.all_eq_true.1 spc_all c.toNat (List.mem_range.2 (UInt8.toNat_lt c))
  rwa [beq_iff_eq, toU8] at this
theorem special_spec {c : UInt8} (hk : K (.bool (spc c)) h) : HC P ref21_special.n #[.int .u8 (c.toNat : Int)] h K := by
  rw [spc_eq] at hk
  generalize c.toNat = n at hk ⊢
  have q : ∀ k : Nat, (((n : Nat) : Int) == ((k : Nat) : Int)) = (n == k) := fun k => by
    rw [Bool.eq_iff_iff, beq_iff_eq, beq_iff_eq]; omega
  refine ref21_special.hc ?_
  unfold ref21_special
  refine bcase_intro (fun a => ?_) fun a => ?_
  · have a : (n == 33) = true := (q 33).symm.trans a
    rw [a] at hk; exact hk
  have a : (n == 33) = false := (q 33).symm.trans a
  unfold ref21_special.k1
  refine bcase_intro (fun b => ?_) fun b => ?_
  · have b : (n == 58) = true := (q 58).symm.trans b
    rw [a, b] at hk; exact hk
  have b : (n == 58) = false := (q 58).symm.trans b
  unfold ref21_special.k0
  refine bcase_intro (fun d => ?_) fun d => ?_
  · have d : (n == 64) = true := (q 64).symm.trans d
    rw [a, b, d] at hk; exact hk
  have d : (n == 64) = false := (q 64).symm.trans d
  refine bcase_intro (fun e => ?_) fun e => ?_
  · have e : (n == 46) = true := (q 46).symm.trans e
    rw [a, b, d, e] at hk; exact hk
  have e : (n == 46) = false := (q 46).symm.trans e
  rw [a, b, d, e] at hk
  have := q 92
  show K (.bool (((n : Nat) : Int) == ((92 : Nat) : Int))) h
  rw [this]; exact hk
/-- A text under way. -/
structure RP (h : Hp) (bs : List UInt8) (a : Option Addr) (c : Nat) (o : List Nat) (hh : Hp) : Prop where
  sl : SlAt hh T.uint8 1 AnyV a bs.length c (bvs bs) o
  st : Step [] h o hh
theorem RP.byte {hh : Hp} {bs : List UInt8} {a : Option Addr} {c b : Nat} {o : List Nat} {C : Value → Hp → Prop} (w : RP h bs a c o hh) (hb : hh b = none) (x : UInt8) (hl : bs.length < 1000000)
    (hk : ∀ a' c' o' h', RP h (bs ++ [x]) a' c' o' h' → C (.slice a' (bs ++ [x]).length c') h') :
    wpSem P (Builtin.append_ #[T.sl_uint8, T.sl_uint8] T.sl_uint8 #[.slice a bs.length c, .slice (some ⟨b, 0, none⟩) 1 1]) C (hh.put b (.cells #[.int .u8 (x.toNat : Int)] T.uint8 (0, 0))) := by
  refine pushV_wp slU8 (fun _ _ _ _ _ _ => trivial) w.sl hb (by omega) rfl fun a' c' o' h' s' st' => ?_
  have e : bvs bs ++ [Value.int .u8 (x.toNat : Int)] = bvs (bs ++ [x]) := by rw [bvs_app]; rfl
  rw [e] at s'
  have := hk a' c' o' h' ⟨by rw [List.length_append, List.length_singleton]; exact s', w.st.trans st'⟩
  rw [List.length_append, List.length_singleton] at this
  exact this
theorem RP.str {hh : Hp} {bs : List UInt8} {a : Option Addr} {c : Nat} {o : List Nat} {C : Value → Hp → Prop} {s : ByteArray} (w : RP h bs a c o hh) (hl : bs.length + s.size < 1000000)
    (hk : ∀ a' c' o' h', RP h (bs ++ s.data.toList) a' c' o' h' → C (.slice a' (bs ++ s.data.toList).length c') h') :
    wpSem P (Builtin.append_ #[T.sl_uint8, T.string] T.sl_uint8 #[.slice a bs.length c, .string s]) C hh := by
  have es : s.size = s.data.toList.length := Lib.size_eq _
  refine append_str (P := P) (Z := AnyV) (n := s.size) (cs := bvs s.data.toList) slU8 (by kernel_rfl) w.sl (fun _ _ _ _ _ _ => trivial) rfl rfl rfl (by omega) fun a' c' o' h' s1 _ _ st => ?_
  have := hk a' c' o' h' ⟨by rw [List.length_append, bvs_app, ← es]; exact s1, w.st.trans st⟩
  rw [List.length_append, ← es] at this
  exact this
theorem RP.pure {hh h' : Hp} {bs : List UInt8} {a : Option Addr} {c : Nat} {o : List Nat} (w : RP h bs a c o hh) (s : Step [] hh [] h') : RP h bs a c o h' :=
  ⟨w.sl.keep fun q hq => s.keep q (w.sl.mem q hq) (by simp), w.st.trans (by simpa using s.frame o)⟩
theorem add_add (p : Addr) (a b : Nat) : (p.add a).add b = p.add (a + b) := by
  unfold Addr.add
  by_cases h1 : a = 0 <;> by_cases h2 : b = 0 <;> simp [h1, h2, Nat.add_assoc]
theorem idAt {hh : Hp} {p : Addr} {x : Raw} (k : x.Ok) (c : CellsAt hh p 20 (mc x).toArray) : CellsAt hh (p.add 1) 16 (gcs x.id) := by
  refine ⟨by rw [gcs_size, k.id.1], fun j v hv => ?_⟩
  have hj : j < 16 := by have := (Array.getElem?_eq_some_iff.1 hv).1; rwa [gcs_size, k.id.1] at this
  rw [add_add]
  refine c.2 (1 + j) v ?_
  rw [List.getElem?_toArray, mc_id k hj, ← hv]
  simp [gcs]
theorem hiAt {hh : Hp} {p : Addr} {x : Raw} {v : Value} {j : Nat} (k : x.Ok) (c : CellsAt hh p 20 (mc x).toArray) (hv : [Value.string x.txt, .int .u64 (x.H : Int), .slice x.sa x.sn x.sc][j]? = some v) : hh.cell? (p.add (17 + j)) = some v :=
  c.2 (17 + j) v (by rw [List.getElem?_toArray, mc_hi k, hv])
def pre (n i : Nat) : List UInt8 := (List.range i).map fun j => hexc (n / 16 ^ (15 - j) % 16)
theorem pre_succ {n i : Nat} : pre n (i + 1) = pre n i ++ [hexc (n / 16 ^ (15 - i) % 16)] := by simp [pre, List.range_succ]
theorem pre_all {n : Nat} : pre n 16 = hf n 16 := rfl
theorem pre_len {n i : Nat} : (pre n i).length = i := by simp [pre]
theorem shr {n i : Nat} (hi : i ≤ 15) : Int.fdiv (n : Int) (2 ^ Min.min ((IntKind.wrap .u64 (60 - 4 * (i : Int))).toNat) 64) = ((n / 16 ^ (15 - i) : Nat) : Int) := by
  rw [wrapU64 (m := 60 - 4 * i) (by omega) (by omega), Int.toNat_natCast, show Min.min (60 - 4 * i) 64 = 4 * (15 - i) by omega]
  have e : (2 : Int) ^ (4 * (15 - i)) = ((16 ^ (15 - i) : Nat) : Int) := by rw [Int.pow_mul]; simp
  rw [e, Int.fdiv_eq_ediv_of_nonneg _ (Int.natCast_nonneg _)]
  rfl
theorem prS_list {g : List Nat} : (prS g).data.toList = prL g := by unfold prS; generalize prL g = l; simp
theorem prS_app {T0 : List UInt8} {g : List Nat} : T0 ++ [58] ++ (prS g).data.toList = T0 ++ 58 :: prL g := by rw [prS_list]; generalize prL g = l; simp
theorem prS_size {g : List Nat} : (prS g).size = (prL g).length := by rw [Lib.size_eq, prS_list]
set_option maxHeartbeats 1000000 in
/-- One part more, at the text under way. -/
theorem rOne {hh : Hp} {x : Raw} {j n0 : Nat} {p : Addr} {T0 : List UInt8} {a : Option Addr} {c : Nat} {o : List Nat} {I0 : List Value → Hp → Prop} {x0 : List Value → Hp → Nat} (k : x.Ok) (rp : rpart x = true) (hj : j < n0) (hn : n0 < 1000)
    (rd : ∀ h', Step [] h [] h' → CellsAt h' (p.add (j * 20)) 20 (mc x).toArray) (w : RP h T0 a c o hh) (hl : T0.length < 100000)
    (fin : ∀ a' c' o' h', RP h (T0 ++ txt1 x) a' c' o' h' → ref21_Print.k0 I0 a' (T0 ++ txt1 x).length c' (j : Int) h' x0 a T0.length c hh) : ref21_Print.k20 (j : Int) n0 (some p) hh a T0.length c I0 x0 := by
  have RD : ∀ {h'} {bs a c o}, RP h bs a c o h' → CellsAt h' (p.add (j * 20)) 20 (mc x).toArray := fun w => rd _ w.st.forget0
  have rk := fun {h'} {bs a c o} (w : RP h bs a c o h') => (RD w).2 0 (.int .i64 x.kind) rfl
  unfold ref21_Print.k20
  rw [someD_some, Int.toNat_natCast]
  refine ⟨by omega, by omega, _, rk w, ?_⟩
  have lx := txt1_len rp
  rcases rp_kind rp with q | q | q | q
  · have et : txt1 x = 33 :: esc x.txt.data.toList := by unfold txt1; rw [if_pos q]
    rw [et] at fin
    have hz : x.txt.data.toList.length ≤ 256 := by
      unfold rpart at rp
      rw [if_pos q] at rp
      have := (of_decide_eq_true rp).2.2.2
      rwa [Lib.size_eq] at this
    have es : x.txt.size = x.txt.data.toList.length := Lib.size_eq _
    have rt := fun {h'} {bs a c o} (w : RP h bs a c o h') => hiAt (j := 0) k (RD w) rfl
    refine bcT (by rw [q]; rfl) ?_
    unfold ref21_Print.k7
    intro b1 hb1
    refine w.byte hb1 33 (by omega) fun a2 c2 o2 h2 w2 => ⟨_, _, _, rfl, ?_⟩
    obtain ⟨I1, hI1⟩ : ∃ I1 : List Value → Hp → Prop, I1 = fun vs h' => ∃ (i : Nat) (a' : Option Addr) (c' : Nat) (o' : List Nat), vs = [.slice a' (T0 ++ [33] ++ esc (x.txt.data.toList.take i)).length c', .int .i64 (i : Int)] ∧ i ≤ x.txt.data.toList.length ∧ RP h (T0 ++ [33] ++ esc (x.txt.data.toList.take i)) a' c' o' h' := ⟨_, rfl⟩
    obtain ⟨x1, hx1⟩ : ∃ x1 : List Value → Hp → Nat, x1 = fun vs _ => match vs with | [_, .int _ i] => x.txt.data.toList.length - i.toNat | _ => 0 := ⟨_, rfl⟩
    refine ⟨I1, x1, ?_⟩
    unfold ref21_Print.k6
    refine ⟨by rw [hI1]; exact ⟨0, a2, c2, o2, by simp [esc], by omega, by simpa [esc] using w2⟩, ?_⟩
    intro h3 a3 n5 c3 n6 hin
    rw [hI1] at hin
    obtain ⟨i, a', c', o', he, hi, w3⟩ := hin
    have e1' : a3 = a' ∧ n5 = (T0 ++ [33] ++ esc (x.txt.data.toList.take i)).length ∧ c3 = c' ∧ n6 = (i : Int) := by cases he; exact ⟨rfl, rfl, rfl, rfl⟩
    clear he
    obtain ⟨rfl, rfl, rfl, rfl⟩ := e1'
    rw [someD_some, Int.toNat_natCast]
    refine ⟨by omega, by omega, _, rt w3, bcase_intro (fun hc => ?_) fun hc => ?_⟩
    · have hc : i < x.txt.data.toList.length := by have := of_decide_eq_true hc; omega
      obtain ⟨ch, hch⟩ : ∃ ch, x.txt.data.toList[i]? = some ch := ⟨_, List.getElem?_eq_getElem hc⟩
      have ll : (T0 ++ [33] ++ esc (x.txt.data.toList.take i)).length < 900000 := by
        have := esc_len (l := x.txt.data.toList.take i)
        rw [List.length_take] at this
        rw [List.length_append, List.length_append, List.length_singleton]; omega
      have et' := esc_take hch
      have fin1 : ∀ a6 c6 o6 h6, RP h (T0 ++ [33] ++ esc (x.txt.data.toList.take i) ++ e1 ch) a6 c6 o6 h6 → ref21_Print.k0 I1 a6 (T0 ++ [33] ++ esc (x.txt.data.toList.take i) ++ e1 ch).length c6 (i : Int) h6 x1 a3 (T0 ++ [33] ++ esc (x.txt.data.toList.take i)).length c3 h3 := fun a6 c6 o6 h6 w6 => by
        unfold ref21_Print.k0
        rw [wrapN (m := i + 1) (by simp) (by omega)]
        refine ⟨?_, ?_⟩
        · rw [hI1]
          exact ⟨i + 1, a6, c6, o6, by rw [et', ← List.append_assoc], by omega, by rw [et', ← List.append_assoc]; exact w6⟩
        · rw [hx1]
          show x.txt.data.toList.length - ((i + 1 : Nat) : Int).toNat < x.txt.data.toList.length - (i : Int).toNat
          omega
      unfold ref21_Print.k5
      rw [someD_some, Int.toNat_natCast, Int.toNat_natCast]
      refine ⟨by omega, by omega, _, rt w3, by omega, ch, ba_some hch, special_spec ⟨_, rfl, ?_⟩⟩
      unfold ref21_Print.k4
      refine bcase_intro (fun hs => ?_) fun hs => ?_
      · have ee : e1 ch = [92, ch] := by unfold e1; rw [if_pos hs]
        rw [ee] at fin1
        unfold ref21_Print.k2
        intro b4 hb4
        refine w3.byte hb4 92 (by omega) fun a4 c4 o4 h5 w5 => ⟨_, _, _, rfl, ?_⟩
        unfold ref21_Print.k1
        rw [someD_some, Int.toNat_natCast, Int.toNat_natCast]
        refine ⟨by omega, by omega, _, rt w5, by omega, ch, ba_some hch, fun b6 hb6 => ?_⟩
        refine w5.byte hb6 ch (by simp at ll ⊢; omega) fun a6 c6 o6 h6 w6 => ⟨_, _, _, rfl, ?_⟩
        have := fin1 a6 c6 o6 h6 (by simpa using w6)
        simpa using this
      · have ee : e1 ch = [ch] := by unfold e1; rw [if_neg (by simp [hs])]
        rw [ee] at fin1
        unfold ref21_Print.k3
        rw [someD_some, Int.toNat_natCast, Int.toNat_natCast]
        refine ⟨by omega, by omega, _, rt w3, by omega, ch, ba_some hch, fun b8 hb8 => ?_⟩
        exact w3.byte hb8 ch (by omega) fun a6 c6 o6 h6 w6 => ⟨_, _, _, rfl, fin1 a6 c6 o6 h6 w6⟩
    · have hc : i = x.txt.data.toList.length := by have := of_decide_eq_false hc; omega
      rw [hc, List.take_length] at w3 ⊢
      have e : T0 ++ [33] ++ esc x.txt.data.toList = T0 ++ 33 :: esc x.txt.data.toList := by rw [List.append_assoc]; rfl
      rw [e] at w3 ⊢
      exact fin a3 c3 o' h3 w3
  · have et : txt1 x = 58 :: prL x.id := by unfold txt1; rw [if_neg (by omega), if_pos q]
    rw [et] at fin lx
    simp only [List.length_cons] at lx
    refine bcF (by rw [q]; rfl) ?_
    unfold ref21_Print.k19
    refine bcT (by rw [q]; rfl) ?_
    unfold ref21_Print.k10
    intro b9 hb9
    refine w.byte hb9 58 (by omega) fun a2 c2 o2 h2 w2 => ⟨_, _, _, rfl, ?_⟩
    unfold ref21_Print.k9
    rw [someD_some, Int.toNat_natCast]
    refine ⟨by omega, by omega, _, idAt k (RD w2), rPrint_spec k.id fun h3 s3 => ⟨_, rfl, ?_⟩⟩
    unfold ref21_Print.k8
    have es : (prS x.id).size = (prL x.id).length := prS_size
    have e : T0 ++ [58] ++ (prS x.id).data.toList = T0 ++ 58 :: prL x.id := prS_app
    generalize prS x.id = ss at es e ⊢
    generalize prL x.id = ll at es e lx fin
    refine RP.str (w2.pure s3) (by rw [es, List.length_append, List.length_singleton]; omega) fun a4 c4 o4 h4 w4 => ?_
    rw [e] at w4 ⊢
    exact ⟨_, _, _, rfl, fin a4 c4 o4 h4 w4⟩
  · have et : txt1 x = 64 :: hf x.H 16 := by unfold txt1; rw [if_neg (by omega), if_neg (by omega), if_pos q]
    rw [et] at fin
    refine bcF (by rw [q]; rfl) ?_
    unfold ref21_Print.k19
    refine bcF (by rw [q]; rfl) ?_
    unfold ref21_Print.k18
    refine bcT (by rw [q]; rfl) ?_
    unfold ref21_Print.k14
    intro b10 hb10
    refine w.byte hb10 64 (by omega) fun a2 c2 o2 h2 w2 => ⟨_, _, _, rfl, ?_⟩
    obtain ⟨I2, hI2⟩ : ∃ I2 : List Value → Hp → Prop, I2 = fun vs h' => ∃ (i : Nat) (a' : Option Addr) (c' : Nat) (o' : List Nat), vs = [.slice a' (T0 ++ [64] ++ pre x.H i).length c', .int .i64 (60 - 4 * (i : Int))] ∧ i ≤ 16 ∧ RP h (T0 ++ [64] ++ pre x.H i) a' c' o' h' := ⟨_, rfl⟩
    obtain ⟨x2, hx2⟩ : ∃ x2 : List Value → Hp → Nat, x2 = fun vs _ => match vs with | [_, .int _ i] => (i + 4).toNat | _ => 0 := ⟨_, rfl⟩
    refine ⟨I2, x2, ?_⟩
    unfold ref21_Print.k13
    refine ⟨by rw [hI2]; exact ⟨0, a2, c2, o2, by simp [pre], by omega, by simpa [pre] using w2⟩, ?_⟩
    intro h3 a3 n5 c3 n6 hin
    rw [hI2] at hin
    obtain ⟨i, a', c', o', he, hi, w3⟩ := hin
    have e1' : a3 = a' ∧ n5 = (T0 ++ [64] ++ pre x.H i).length ∧ c3 = c' ∧ n6 = 60 - 4 * (i : Int) := by cases he; exact ⟨rfl, rfl, rfl, rfl⟩
    clear he
    obtain ⟨rfl, rfl, rfl, rfl⟩ := e1'
    have hH := k.H
    refine bcase_intro (fun hc => ?_) fun hc => ?_
    · have hc : i ≤ 15 := by have := of_decide_eq_true hc; omega
      have hle : x.H / 16 ^ (15 - i) ≤ x.H := Nat.div_le_self _ _
      unfold ref21_Print.k12
      rw [someD_some, Int.toNat_natCast]
      refine ⟨by omega, by omega, _, hiAt (j := 1) k (RD w3) rfl, ?_⟩
      rw [shr hc, and15 (by omega), Int.toNat_natCast]
      refine ⟨by rw [wrapU64 (m := 60 - 4 * i) (by omega) (by omega)]; omega, by omega, _, hex_get (by omega), fun b12 hb12 => ?_⟩
      refine w3.byte hb12 _ (by simp [pre_len]; omega) fun a4 c4 o4 h4 w4 => ⟨_, _, _, rfl, ?_⟩
      rw [List.append_assoc (T0 ++ [64]), ← pre_succ] at w4 ⊢
      unfold ref21_Print.k11
      have hw : IntKind.wrap .i64 (60 - 4 * (i : Int) - 4) = 60 - 4 * ((i + 1 : Nat) : Int) := by rw [wrap_id (by omega) (by omega)]; omega
      rw [hw]
      refine ⟨?_, ?_⟩
      · rw [hI2]
        exact ⟨i + 1, a4, c4, o4, rfl, by omega, w4⟩
      · rw [hx2]
        show (60 - 4 * ((i + 1 : Nat) : Int) + 4).toNat < (60 - 4 * (i : Int) + 4).toNat
        omega
    · have hc : i = 16 := by have := of_decide_eq_false hc; omega
      rw [hc, pre_all] at w3 ⊢
      have e : T0 ++ [64] ++ hf x.H 16 = T0 ++ 64 :: hf x.H 16 := by rw [List.append_assoc]; rfl
      rw [e] at w3 ⊢
      exact fin a3 c3 o' h3 w3
  · have et : txt1 x = [46] := by unfold txt1; rw [if_neg (by omega), if_neg (by omega), if_neg (by omega)]
    rw [et] at fin
    refine bcF (by rw [q]; rfl) ?_
    unfold ref21_Print.k19
    refine bcF (by rw [q]; rfl) ?_
    unfold ref21_Print.k18
    refine bcF (by rw [q]; rfl) ?_
    unfold ref21_Print.k17
    refine bcT (by rw [q]; rfl) ?_
    unfold ref21_Print.k15
    intro b13 hb13
    exact w.byte hb13 46 (by omega) fun a2 c2 o2 h2 w2 => ⟨_, _, _, rfl, fin a2 c2 o2 h2 w2⟩
theorem rPrintM_spec {x : Raw} {rows : List Raw} {m : Mon} (t : Top h x rows m) (hr : rright x rows = true) (hk : ∀ h', Step [] h [] h' → K (.string ⟨(txtOf (partsOf x rows)).toArray⟩) h') : HC P ref21_Print.n #[.agg (mc x).toArray] h K := by
  have k := t.deep.ok
  refine ref21_Print.hc ?_
  unfold ref21_Print
  intro b0 hb0
  have S0 : Step [] h [] (h.put b0 (.cells (mc x).toArray T.api_Moniker (0, 0))) := Step.put (.inr hb0)
  have M0 : MB (h.put b0 (.cells (mc x).toArray T.api_Moniker (0, 0))) b0 x := put_self
  refine ⟨_, M0.all k, rParts_spec (t.step S0) fun a0 n0 c0 h0 hn0 src s0 => ⟨_, _, _, rfl, ?_⟩⟩
  have S0 := S0.trans s0
  have rps := parts_rp hr
  have pl := parts_len t hr
  have okp : ∀ r ∈ partsOf x rows, r.Ok := fun r hr' => prt_ok t r (by rw [prt_right hr]; exact hr')
  generalize partsOf x rows = l at *
  have tl : ∀ i, (txtOf (l.take i)).length ≤ 40000 := fun i => by
    have := txtOf_len (l := l.take i) fun r hr => rps r (List.mem_of_mem_take hr)
    rw [List.length_take] at this
    omega
  obtain ⟨I0, hI0⟩ : ∃ I0 : List Value → Hp → Prop, I0 = fun vs hh => ∃ (j : Nat) (a : Option Addr) (c : Nat) (o : List Nat), vs = [.slice a (txtOf (l.take j)).length c, .int .i64 (j : Int)] ∧ j ≤ l.length ∧ RP h0 (txtOf (l.take j)) a c o hh := ⟨_, rfl⟩
  obtain ⟨x0, hx0⟩ : ∃ x0 : List Value → Hp → Nat, x0 = fun vs _ => match vs with | [_, .int _ i] => l.length - i.toNat | _ => 0 := ⟨_, rfl⟩
  refine ⟨I0, x0, ?_⟩
  unfold ref21_Print.k22
  refine ⟨by rw [hI0]; exact ⟨0, none, 0, [], rfl, by omega, ⟨.none, Step.refl _ _⟩⟩, ?_⟩
  intro h1 a1 n1 c1 n2 hin
  rw [hI0] at hin
  obtain ⟨j, a', c', o', he, hj, w⟩ := hin
  have e1' : a1 = a' ∧ n1 = (txtOf (l.take j)).length ∧ c1 = c' ∧ n2 = (j : Int) := by cases he; exact ⟨rfl, rfl, rfl, rfl⟩
  clear he
  obtain ⟨rfl, rfl, rfl, rfl⟩ := e1'
  refine bcase_intro (fun hc => ?_) fun hc => ?_
  · have hc : j < l.length := by have := of_decide_eq_true hc; omega
    obtain ⟨r, hrr⟩ : ∃ r, l[j]? = some r := ⟨_, List.getElem?_eq_getElem hc⟩
    have mr := List.mem_of_getElem? hrr
    obtain ⟨p, rfl, hp, cp⟩ := srcM src okp hn0.symm hrr
    have et : txtOf (l.take (j + 1)) = txtOf (l.take j) ++ txt1 r := by rw [List.take_add_one, hrr]; simp [txtOf]
    refine rOne (h := h0) (okp r mr) (rps r mr) (by omega) (by omega) (fun h' s => cp h' (s.keep _ hp (by simp))) w (by have := tl j; omega) fun a2 c2 o2 h2 w2 => ?_
    rw [← et] at w2 ⊢
    unfold ref21_Print.k0
    rw [wrapN (m := j + 1) (by simp) (by omega)]
    refine ⟨?_, ?_⟩
    · rw [hI0]
      exact ⟨j + 1, a2, c2, o2, rfl, by omega, w2⟩
    · rw [hx0]
      show l.length - ((j + 1 : Nat) : Int).toNat < l.length - (j : Int).toNat
      omega
  · have hc : j = l.length := by have := of_decide_eq_false hc; omega
    rw [hc, List.take_length] at w ⊢
    unfold ref21_Print.k21
    exact bytesStr_wp w.sl.src ⟨_, rfl, hk h1 (S0.trans w.st.forget0)⟩
end Go.Den.Mon
end

section
set_option linter.unusedVariables false
set_option maxRecDepth 100000
namespace Go.Den.Mon
open Go Go.Den

noncomputable section

def internal_strconv_ParseUint.k0 (K : Value → Hp → Prop) (h : Hp) : Prop :=
 K (.tuple #[.int .u64 0, .iface 86 (.int .i64 2)]) h
def internal_strconv_ParseUint.k1 (K : Value → Hp → Prop) (h1 : Hp) : Prop :=
 K (.tuple #[.int .u64 (IntKind.wrap .u64 ((IntKind.wrap .u64 (1 * (2 ^ Min.min ((IntKind.wrap .u64 64).toNat) 64))) - 1)), .iface 86 (.int .i64 1)]) h1
def internal_strconv_ParseUint.k2 (I0 : List Value → Hp → Prop) (b0 : Bool) (n1 : Int) (v1 : Value) (n2 : Int) (n4 : Int) (n3 : Int) (h1 : Hp) (x0 : List Value → Hp → Nat) : Prop :=
 (I0 [.bool b0, .int .u64 n1, v1, .int .u64 (IntKind.wrap .u64 ((IntKind.wrap .u64 (n2 * (IntKind.wrap .u64 16))) + (IntKind.wrap .u64 (IntKind.wrap .u8 (n4 - 48))))), .int .i64 (IntKind.wrap .i64 (n3 + 1))] h1) ∧ (x0 [.bool b0, .int .u64 n1, v1, .int .u64 (IntKind.wrap .u64 ((IntKind.wrap .u64 (n2 * (IntKind.wrap .u64 16))) + (IntKind.wrap .u64 (IntKind.wrap .u8 (n4 - 48))))), .int .i64 (IntKind.wrap .i64 (n3 + 1))] h1) < (x0 [.bool b0, .int .u64 n1, v1, .int .u64 n2, .int .i64 n3] h1)
def internal_strconv_ParseUint.k3 (n2 : Int) (n4 : Int) (K : Value → Hp → Prop) (h1 : Hp) (I0 : List Value → Hp → Prop) (b0 : Bool) (n1 : Int) (v1 : Value) (n3 : Int) (x0 : List Value → Hp → Nat) : Prop :=
 bcase (decide ((IntKind.wrap .u64 ((IntKind.wrap .u64 (1 * (2 ^ Min.min ((IntKind.wrap .u64 64).toNat) 64))) - 1)) < (IntKind.wrap .u64 ((IntKind.wrap .u64 (n2 * (IntKind.wrap .u64 16))) + (IntKind.wrap .u64 (IntKind.wrap .u8 (n4 - 48)))))))
 ((internal_strconv_ParseUint.k1 K h1))
 ((internal_strconv_ParseUint.k2 I0 b0 n1 v1 n2 n4 n3 h1 x0))
def internal_strconv_ParseUint.k4 (n2 : Int) (n4 : Int) (K : Value → Hp → Prop) (h1 : Hp) (I0 : List Value → Hp → Prop) (b0 : Bool) (n1 : Int) (v1 : Value) (n3 : Int) (x0 : List Value → Hp → Nat) : Prop :=
 bcase (decide ((IntKind.wrap .u64 ((IntKind.wrap .u64 (n2 * (IntKind.wrap .u64 16))) + (IntKind.wrap .u64 (IntKind.wrap .u8 (n4 - 48))))) < (IntKind.wrap .u64 (n2 * (IntKind.wrap .u64 16)))))
 ((internal_strconv_ParseUint.k1 K h1))
 ((internal_strconv_ParseUint.k3 n2 n4 K h1 I0 b0 n1 v1 n3 x0))
def internal_strconv_ParseUint.k5 (n2 : Int) (K : Value → Hp → Prop) (h1 : Hp) (n4 : Int) (I0 : List Value → Hp → Prop) (b0 : Bool) (n1 : Int) (v1 : Value) (n3 : Int) (x0 : List Value → Hp → Nat) : Prop :=
 bcase (decide ((1152921504606846976 : Int) ≤ n2))
 ((internal_strconv_ParseUint.k1 K h1))
 ((internal_strconv_ParseUint.k4 n2 n4 K h1 I0 b0 n1 v1 n3 x0))
def internal_strconv_ParseUint.k6 (n4 : Int) (K : Value → Hp → Prop) (h1 : Hp) (n2 : Int) (I0 : List Value → Hp → Prop) (b0 : Bool) (n1 : Int) (v1 : Value) (n3 : Int) (x0 : List Value → Hp → Nat) : Prop :=
 bcase (decide ((IntKind.wrap .u8 16) ≤ (IntKind.wrap .u8 (n4 - 48))))
 ((internal_strconv_ParseUint.k0 K h1))
 ((internal_strconv_ParseUint.k5 n2 K h1 n4 I0 b0 n1 v1 n3 x0))
def internal_strconv_ParseUint.k7 (I0 : List Value → Hp → Prop) (b0 : Bool) (n1 : Int) (v1 : Value) (n2 : Int) (n7 : Int) (n3 : Int) (h4 : Hp) (x0 : List Value → Hp → Nat) (h1 : Hp) : Prop :=
 (I0 [.bool b0, .int .u64 n1, v1, .int .u64 (IntKind.wrap .u64 ((IntKind.wrap .u64 (n2 * (IntKind.wrap .u64 16))) + (IntKind.wrap .u64 (IntKind.wrap .u8 ((IntKind.wrap .u8 (n7 - 97)) + 10))))), .int .i64 (IntKind.wrap .i64 (n3 + 1))] h4) ∧ (x0 [.bool b0, .int .u64 n1, v1, .int .u64 (IntKind.wrap .u64 ((IntKind.wrap .u64 (n2 * (IntKind.wrap .u64 16))) + (IntKind.wrap .u64 (IntKind.wrap .u8 ((IntKind.wrap .u8 (n7 - 97)) + 10))))), .int .i64 (IntKind.wrap .i64 (n3 + 1))] h4) < (x0 [.bool b0, .int .u64 n1, v1, .int .u64 n2, .int .i64 n3] h1)
def internal_strconv_ParseUint.k8 (n2 : Int) (n7 : Int) (K : Value → Hp → Prop) (h4 : Hp) (I0 : List Value → Hp → Prop) (b0 : Bool) (n1 : Int) (v1 : Value) (n3 : Int) (x0 : List Value → Hp → Nat) (h1 : Hp) : Prop :=
 bcase (decide ((IntKind.wrap .u64 ((IntKind.wrap .u64 (1 * (2 ^ Min.min ((IntKind.wrap .u64 64).toNat) 64))) - 1)) < (IntKind.wrap .u64 ((IntKind.wrap .u64 (n2 * (IntKind.wrap .u64 16))) + (IntKind.wrap .u64 (IntKind.wrap .u8 ((IntKind.wrap .u8 (n7 - 97)) + 10)))))))
 ((internal_strconv_ParseUint.k1 K h4))
 ((internal_strconv_ParseUint.k7 I0 b0 n1 v1 n2 n7 n3 h4 x0 h1))
def internal_strconv_ParseUint.k9 (n2 : Int) (n7 : Int) (K : Value → Hp → Prop) (h4 : Hp) (I0 : List Value → Hp → Prop) (b0 : Bool) (n1 : Int) (v1 : Value) (n3 : Int) (x0 : List Value → Hp → Nat) (h1 : Hp) : Prop :=
 bcase (decide ((IntKind.wrap .u64 ((IntKind.wrap .u64 (n2 * (IntKind.wrap .u64 16))) + (IntKind.wrap .u64 (IntKind.wrap .u8 ((IntKind.wrap .u8 (n7 - 97)) + 10))))) < (IntKind.wrap .u64 (n2 * (IntKind.wrap .u64 16)))))
 ((internal_strconv_ParseUint.k1 K h4))
 ((internal_strconv_ParseUint.k8 n2 n7 K h4 I0 b0 n1 v1 n3 x0 h1))
def internal_strconv_ParseUint.k10 (n2 : Int) (K : Value → Hp → Prop) (h4 : Hp) (n7 : Int) (I0 : List Value → Hp → Prop) (b0 : Bool) (n1 : Int) (v1 : Value) (n3 : Int) (x0 : List Value → Hp → Nat) (h1 : Hp) : Prop :=
 bcase (decide ((1152921504606846976 : Int) ≤ n2))
 ((internal_strconv_ParseUint.k1 K h4))
 ((internal_strconv_ParseUint.k9 n2 n7 K h4 I0 b0 n1 v1 n3 x0 h1))
def internal_strconv_ParseUint.k11 (n7 : Int) (K : Value → Hp → Prop) (h4 : Hp) (n2 : Int) (I0 : List Value → Hp → Prop) (b0 : Bool) (n1 : Int) (v1 : Value) (n3 : Int) (x0 : List Value → Hp → Nat) (h1 : Hp) : Prop :=
 bcase (decide ((IntKind.wrap .u8 16) ≤ (IntKind.wrap .u8 ((IntKind.wrap .u8 (n7 - 97)) + 10))))
 ((internal_strconv_ParseUint.k0 K h4))
 ((internal_strconv_ParseUint.k10 n2 K h4 n7 I0 b0 n1 v1 n3 x0 h1))
def internal_strconv_ParseUint.k12 (n4 : Int) (h3 : Hp) (K : Value → Hp → Prop) (n2 : Int) (I0 : List Value → Hp → Prop) (b0 : Bool) (n1 : Int) (v1 : Value) (n3 : Int) (x0 : List Value → Hp → Nat) (h1 : Hp) : Prop :=
 HC P internal_strconv_lower.n #[.int .u8 n4] h3 (fun v4 h4 => (∃ n7 : Int, (v4 = (.int .u8 n7)) ∧ (internal_strconv_ParseUint.k11 n7 K h4 n2 I0 b0 n1 v1 n3 x0 h1)))
def internal_strconv_ParseUint.k13 (n6 : Int) (n4 : Int) (h3 : Hp) (K : Value → Hp → Prop) (n2 : Int) (I0 : List Value → Hp → Prop) (b0 : Bool) (n1 : Int) (v1 : Value) (n3 : Int) (x0 : List Value → Hp → Nat) (h1 : Hp) : Prop :=
 bcase (decide (n6 ≤ 122))
 ((internal_strconv_ParseUint.k12 n4 h3 K n2 I0 b0 n1 v1 n3 x0 h1))
 ((internal_strconv_ParseUint.k0 K h3))
def internal_strconv_ParseUint.k14 (n4 : Int) (h2 : Hp) (K : Value → Hp → Prop) (n2 : Int) (I0 : List Value → Hp → Prop) (b0 : Bool) (n1 : Int) (v1 : Value) (n3 : Int) (x0 : List Value → Hp → Nat) (h1 : Hp) : Prop :=
 HC P internal_strconv_lower.n #[.int .u8 n4] h2 (fun v3 h3 => (∃ n6 : Int, (v3 = (.int .u8 n6)) ∧ (internal_strconv_ParseUint.k13 n6 n4 h3 K n2 I0 b0 n1 v1 n3 x0 h1)))
def internal_strconv_ParseUint.k15 (n5 : Int) (n4 : Int) (h2 : Hp) (K : Value → Hp → Prop) (n2 : Int) (I0 : List Value → Hp → Prop) (b0 : Bool) (n1 : Int) (v1 : Value) (n3 : Int) (x0 : List Value → Hp → Nat) (h1 : Hp) : Prop :=
 bcase (decide ((97 : Int) ≤ n5))
 ((internal_strconv_ParseUint.k14 n4 h2 K n2 I0 b0 n1 v1 n3 x0 h1))
 ((internal_strconv_ParseUint.k0 K h2))
def internal_strconv_ParseUint.k16 (n4 : Int) (h1 : Hp) (K : Value → Hp → Prop) (n2 : Int) (I0 : List Value → Hp → Prop) (b0 : Bool) (n1 : Int) (v1 : Value) (n3 : Int) (x0 : List Value → Hp → Nat) : Prop :=
 HC P internal_strconv_lower.n #[.int .u8 n4] h1 (fun v2 h2 => (∃ n5 : Int, (v2 = (.int .u8 n5)) ∧ (internal_strconv_ParseUint.k15 n5 n4 h2 K n2 I0 b0 n1 v1 n3 x0 h1)))
def internal_strconv_ParseUint.k17 (n4 : Int) (K : Value → Hp → Prop) (h1 : Hp) (n2 : Int) (I0 : List Value → Hp → Prop) (b0 : Bool) (n1 : Int) (v1 : Value) (n3 : Int) (x0 : List Value → Hp → Nat) : Prop :=
 bcase (decide (n4 ≤ 57))
 ((internal_strconv_ParseUint.k6 n4 K h1 n2 I0 b0 n1 v1 n3 x0))
 ((internal_strconv_ParseUint.k16 n4 h1 K n2 I0 b0 n1 v1 n3 x0))
def internal_strconv_ParseUint.k18 (n4 : Int) (K : Value → Hp → Prop) (h1 : Hp) (n2 : Int) (I0 : List Value → Hp → Prop) (b0 : Bool) (n1 : Int) (v1 : Value) (n3 : Int) (x0 : List Value → Hp → Nat) : Prop :=
 bcase (decide ((48 : Int) ≤ n4))
 ((internal_strconv_ParseUint.k17 n4 K h1 n2 I0 b0 n1 v1 n3 x0))
 ((internal_strconv_ParseUint.k16 n4 h1 K n2 I0 b0 n1 v1 n3 x0))
def internal_strconv_ParseUint.k19 (n3 : Int) (n0 : Nat) (a0 : Option Addr) (h1 : Hp) (K : Value → Hp → Prop) (n2 : Int) (I0 : List Value → Hp → Prop) (b0 : Bool) (n1 : Int) (v1 : Value) (x0 : List Value → Hp → Nat) : Prop :=
 ((0 : Int) ≤ n3) ∧ (n3 < (n0 : Int)) ∧ someD a0 (fun p0 => (∃ n4 : Int, ((h1.cell? (p0.add (n3.toNat * 1))) = (some (.int .u8 n4))) ∧ bcase ((n4 == 95))
 ((internal_strconv_ParseUint.k18 n4 K h1 n2 I0 b0 n1 v1 n3 x0))
 ((internal_strconv_ParseUint.k18 n4 K h1 n2 I0 b0 n1 v1 n3 x0))))
def internal_strconv_ParseUint.k20 (b1 : Bool) (K : Value → Hp → Prop) (h5 : Hp) (n2 : Int) : Prop :=
 bcase ((!b1))
 ((internal_strconv_ParseUint.k0 K h5))
 (K (.tuple #[.int .u64 n2, .nilIface]) h5)
def internal_strconv_ParseUint.k21 (s0 : ByteArray) (h1 : Hp) (K : Value → Hp → Prop) (n2 : Int) : Prop :=
 HC P internal_strconv_underscoreOK.n #[.string s0] h1 (fun v5 h5 => (∃ b1 : Bool, (v5 = (.bool b1)) ∧ (internal_strconv_ParseUint.k20 b1 K h5 n2)))
def internal_strconv_ParseUint.k22 (b0 : Bool) (s0 : ByteArray) (h1 : Hp) (K : Value → Hp → Prop) (n2 : Int) : Prop :=
 bcase (b0)
 ((internal_strconv_ParseUint.k21 s0 h1 K n2))
 (K (.tuple #[.int .u64 n2, .nilIface]) h1)
def internal_strconv_ParseUint.k23 (I0 : List Value → Hp → Prop) (h0 : Hp) (n0 : Nat) (a0 : Option Addr) (K : Value → Hp → Prop) (x0 : List Value → Hp → Nat) (s0 : ByteArray) : Prop :=
 (I0 [.bool Bool.false, .int .u64 0, .nilIface, .int .u64 0, .int .i64 0] h0) ∧ (∀ h1 : Hp, (∀ b0 : Bool, (∀ n1 : Int, (∀ v1 : Value, (∀ n2 : Int, (∀ n3 : Int, (I0 [.bool b0, .int .u64 n1, v1, .int .u64 n2, .int .i64 n3] h1 → bcase (decide (n3 < (n0 : Int)))
 ((internal_strconv_ParseUint.k19 n3 n0 a0 h1 K n2 I0 b0 n1 v1 x0))
 ((internal_strconv_ParseUint.k22 b0 s0 h1 K n2)))))))))
def internal_strconv_ParseUint.k24 (s0 : ByteArray) (K : Value → Hp → Prop) (h : Hp) : Prop :=
 ((0 : Int) ≤ (IntKind.wrap .u64 64)) ∧ wpSem P (convDark T.string T.sl_uint8 (.string s0)) (fun v0 h0 => (∃ a0 : Option Addr, (∃ n0 : Nat, (∃ c0 : Nat, (v0 = (.slice a0 n0 c0)) ∧ (∃ I0 : List Value → Hp → Prop, (∃ x0 : List Value → Hp → Nat, (internal_strconv_ParseUint.k23 I0 h0 n0 a0 K x0 s0))))))) h
def internal_strconv_ParseUint (s0 : ByteArray) (K : Value → Hp → Prop) (h : Hp) : Prop :=
 bcase (((ByteArray.toList s0) == []))
 ((internal_strconv_ParseUint.k0 K h))
 ((internal_strconv_ParseUint.k24 s0 K h))
theorem internal_strconv_ParseUint.hc {s0 : ByteArray} {K : Value → Hp → Prop} {h : Hp} (hh : internal_strconv_ParseUint s0 K h) : HC P internal_strconv_ParseUint.n #[.string s0, .int .i64 16, .int .i64 64] h K :=
  HC_of_den (fn := Go.Proofs.Tryz.f34) (args := [.string s0, .int .i64 16, .int .i64 64]) Go.Proofs.Tryz.func34 rfl (Nat.le_of_ble_eq_true (by kernel_rfl)) (den_cast hh (by kernel_rfl))

end
end Go.Den.Mon
end

section
set_option linter.unusedVariables false
set_option maxRecDepth 100000
namespace Go.Den.Mon
open Go Go.Den
variable {h : Hp} {K : Value → Hp → Prop}
theorem strBytes_wp {s : ByteArray} {C : Value → Hp → Prop} (hk : ∀ b cap h', (∀ (j : Nat) (c : UInt8), s.data.toList[j]? = some c → h'.cell? ⟨b, j, none⟩ = some (.int .u8 (c.toNat : Int))) → h' b ≠ none → Step [] h [] h' → C (.slice (some ⟨b, 0, none⟩) s.size cap) h') :
    wpSem P (convDark T.string T.sl_uint8 (.string s)) C h := by
  have u1 : P.underlying T.sl_uint8 = some (.slice T.uint8) := by kernel_rfl
  have u2 : P.underlying T.string = some .string := by kernel_rfl
  have u3 : P.underlying T.uint8 = some (.int .u8) := by kernel_rfl
  show wpSem P (convert T.string T.sl_uint8 (.string s)) C h
  unfold convert
  refine wpSem_bind _ _ _ _ (wp_underlying u2 ?_)
  refine wpSem_bind _ _ _ _ (wp_underlying u1 ?_)
  refine wpSem_bind _ _ _ _ (wp_underlying u3 ?_)
  show wpSem P (Conv.stringToBytes T.uint8 s) C h
  unfold Conv.stringToBytes
  refine wpSem_bind _ _ _ _ ?_
  intro tt
  generalize (if (Question.appendCap s.size 0 T.uint8).forced then 0 else (Question.appendCap s.size 0 T.uint8).cut tt) = cap
  refine wp_pure (P := P) ?_
  refine wpSem_bind _ _ _ _ ?_
  unfold newRow newObj
  refine wpSem_bind _ _ _ _ ?_
  intro b hb
  refine wp_pure (P := P) (wp_pure (P := P) ?_)
  generalize hcs : (Array.map (fun (b : UInt8) => Value.int .u8 (b.toNat : Int)) s.data ++ Array.replicate (cap - s.size) (.int .u8 0)) = cs
  obtain ⟨H, hH⟩ : ∃ H, H = h.put b (.cells cs T.uint8 (0, 0)) := ⟨_, rfl⟩
  have Hb : H b = some (.cells cs T.uint8 (0, 0)) := by rw [hH, put_self]
  have hsh : H.shape? b = some (T.uint8, cs.size) := by unfold Hp.shape?; rw [Hb]
  rw [← hH]
  refine wpSem_bind _ _ _ _ ?_
  show wpSem P (match H.shape? b with | some (_, n) => freeze { block := b, off := n } 1 | x => pure ()) _ H
  rw [hsh]
  show C (.slice (some ⟨b, 0, none⟩) s.size cap) (H.freeze { block := b, off := cs.size } 1)
  refine hk b cap _ (fun j c hc => ?_) (freeze_dom (by rw [Hb]; simp)) ?_
  · have : (H.freeze { block := b, off := cs.size } 1).cell? ⟨b, j, none⟩ = H.cell? ⟨b, j, none⟩ := by
      unfold Hp.cell? Hp.freeze
      simp [Hb, Hp.freezeObj]
    rw [this, cell_of Hb, ← hcs]
    have hj := (List.getElem?_eq_some_iff.1 hc).1
    rw [Array.getElem?_append_left (by simpa using hj), Array.getElem?_map]
    rw [show s.data[j]? = some c by rw [← Array.getElem?_toList]; exact hc]
    rfl
  · have s1 : Step [] h [b] H := by rw [hH]; exact Step.new hb
    have s2 : Step [b] H [b] (H.freeze { block := b, off := cs.size } 1) := ⟨fun k hk hn => freeze_off fun e => hn (by simp [e]), fun k hk => .inl hk, fun k hk => freeze_dom hk⟩
    exact (s1.trans s2).forget0
/-! ### Digits that are read -/
def lo (n : Nat) : Int := bits .or .u8 (n : Int) 32
theorem lower_spec {n : Nat} (hk : K (.int .u8 (lo n)) h) : HC P internal_strconv_lower.n #[.int .u8 (n : Int)] h K := by
  refine internal_strconv_lower.hc ?_
  unfold internal_strconv_lower
  exact hk
theorem tabU : ((List.range 256).all fun n => if 48 ≤ n ∧ n ≤ 57 then hv n == (n : Int) - 48 && (IntKind.wrap .u8 ((n : Int) - 48) == (n : Int) - 48) else
    if 97 ≤ lo n ∧ lo n ≤ 122 then (if 16 ≤ IntKind.wrap .u8 (IntKind.wrap .u8 (lo n - 97) + 10) then hv n == -1 else hv n == IntKind.wrap .u8 (IntKind.wrap .u8 (lo n - 97) + 10)) else hv n == -1) = true := by decide +kernel
theorem tab_digit {n : Nat} (hn : n < 256) (h1 : 48 ≤ n ∧ n ≤ 57) : hv n = (n : Int) - 48 ∧ IntKind.wrap .u8 ((n : Int) - 48) = (n : Int) - 48 := by
  have := List.all_eq_true.1 tabU n (List.mem_range.2 hn)
  rw [if_pos h1, Bool.and_eq_true, beq_iff_eq, beq_iff_eq] at this
  exact this
theorem tab_letter {n : Nat} (hn : n < 256) (h1 : ¬ (48 ≤ n ∧ n ≤ 57)) (h2 : 97 ≤ lo n ∧ lo n ≤ 122) : if 16 ≤ IntKind.wrap .u8 (IntKind.wrap .u8 (lo n - 97) + 10) then hv n = -1 else hv n = IntKind.wrap .u8 (IntKind.wrap .u8 (lo n - 97) + 10) := by
  have := List.all_eq_true.1 tabU n (List.mem_range.2 hn)
  rw [if_neg h1, if_pos h2] at this
  split at this
  · rw [if_pos (by assumption)]; simpa using this
  · rw [if_neg (by assumption)]; simpa using this
theorem tab_none {n : Nat} (hn : n < 256) (h1 : ¬ (48 ≤ n ∧ n ≤ 57)) (h2 : ¬ (97 ≤ lo n ∧ lo n ≤ 122)) : hv n = -1 := by
  have := List.all_eq_true.1 tabU n (List.mem_range.2 hn)
  rw [if_neg h1, if_neg h2] at this
  simpa using this
end Go.Den.Mon
end

section
set_option linter.unusedVariables false
set_option maxRecDepth 100000
namespace Go.Den.Mon
open Go Go.Den
variable {h : Hp} {K : Value → Hp → Prop}
def uv (l : List UInt8) : Nat := l.foldl (fun v c => v * 16 + (hv c.toNat).toNat) 0
def uok (l : List UInt8) : Prop := ∀ c ∈ l, 0 ≤ hv c.toNat
theorem uv_snoc {l : List UInt8} {c : UInt8} : uv (l ++ [c]) = uv l * 16 + (hv c.toNat).toNat := by simp [uv]
theorem uv_lt {l : List UInt8} : uv l < 16 ^ l.length := by
  have go : ∀ (l : List UInt8) (v n : Nat), v < 16 ^ n → l.foldl (fun v c => v * 16 + (hv c.toNat).toNat) v < 16 ^ (n + l.length) := by
    intro l
    induction l with
    | nil => intro v n hv; exact hv
    | cons c l ih =>
      intro v n hvn
      have hc := hv_lt c.toNat
      have := ih (v * 16 + (hv c.toNat).toNat) (n + 1) (by rw [Nat.pow_succ]; omega)
      rw [List.length_cons, show n + (l.length + 1) = n + 1 + l.length by omega]
      exact this
  have := go l 0 0 (by omega)
  simpa [uv] using this
theorem uok_snoc {l : List UInt8} {c : UInt8} (h1 : uok l) (h2 : 0 ≤ hv c.toNat) : uok (l ++ [c]) := by
  intro x hx
  rcases List.mem_append.1 hx with z | z
  · exact h1 x z
  · simp at z; rw [z]; exact h2
theorem parseU_spec {s : ByteArray} (hl : s.data.toList.length = 16) (hk1 : uok s.data.toList → ∀ h', Step [] h [] h' → K (.tuple #[.int .u64 (uv s.data.toList : Int), .nilIface]) h')
    (hk0 : ¬ uok s.data.toList → ∀ h', Step [] h [] h' → K (.tuple #[.int .u64 0, .iface 86 (.int .i64 2)]) h') : HC P internal_strconv_ParseUint.n #[.string s, .int .i64 16, .int .i64 64] h K := by
  have es : s.size = s.data.toList.length := Lib.size_eq _
  refine internal_strconv_ParseUint.hc ?_
  unfold internal_strconv_ParseUint
  rw [txt_nil]
  refine bcF (decide_eq_false (by omega)) ?_
  unfold internal_strconv_ParseUint.k24
  refine ⟨by decide +kernel, strBytes_wp fun b cap H hc Hb sH => ⟨_, _, _, rfl, ?_⟩⟩
  generalize s.data.toList = l at *
  obtain ⟨I0, hI0⟩ : ∃ I0 : List Value → Hp → Prop, I0 = fun vs hh => ∃ (i : Nat), vs = [.bool false, .int .u64 0, .nilIface, .int .u64 (uv (l.take i) : Int), .int .i64 (i : Int)] ∧ i ≤ 16 ∧ uok (l.take i) ∧ Step [] H [] hh := ⟨_, rfl⟩
  obtain ⟨x0, hx0⟩ : ∃ x0 : List Value → Hp → Nat, x0 = fun vs _ => match vs with | [_, _, _, _, .int _ i] => 16 - i.toNat | _ => 0 := ⟨_, rfl⟩
  refine ⟨I0, x0, ?_⟩
  unfold internal_strconv_ParseUint.k23
  refine ⟨by rw [hI0]; exact ⟨0, rfl, by omega, by simp [uok], Step.refl _ _⟩, ?_⟩
  intro h1 b0 n1 v1 n2 n3 hin
  rw [hI0] at hin
  obtain ⟨i, he, hi, ok, st⟩ := hin
  have e1' : b0 = false ∧ n1 = 0 ∧ v1 = .nilIface ∧ n2 = (uv (l.take i) : Int) ∧ n3 = (i : Int) := by cases he; exact ⟨rfl, rfl, rfl, rfl, rfl⟩
  clear he
  obtain ⟨rfl, rfl, rfl, rfl, rfl⟩ := e1'
  have St := sH.trans st
  rw [es]
  refine bcase_intro (fun hc' => ?_) fun hc' => ?_
  · have hi' : i < 16 := by have := of_decide_eq_true hc'; omega
    obtain ⟨c, hcc⟩ : ∃ c, l[i]? = some c := ⟨_, List.getElem?_eq_getElem (by omega)⟩
    have mc' := List.mem_of_getElem? hcc
    have lt := uv_lt (l := l.take i)
    rw [List.length_take, hl, Nat.min_eq_left hi] at lt
    have lt15 : uv (l.take i) < 1152921504606846976 := by
      have : 16 ^ i ≤ 16 ^ 15 := Nat.pow_le_pow_right (by omega) (by omega)
      omega
    have et : l.take (i + 1) = l.take i ++ [c] := by rw [List.take_add_one, hcc]; rfl
    have bad : ∀ {h5 : Hp}, Step [] h1 [] h5 → hv c.toNat = -1 → internal_strconv_ParseUint.k0 K h5 := fun s5 e => by
      unfold internal_strconv_ParseUint.k0
      exact hk0 (fun q => by have := q c mc'; omega) _ (St.trans s5)
    have c256 := UInt8.toNat_lt c
    have w16 : IntKind.wrap .u64 16 = 16 := by decide +kernel
    have w16' : IntKind.wrap .u8 16 = 16 := by decide +kernel
    have wmax : IntKind.wrap .u64 ((IntKind.wrap .u64 (1 * (2 ^ Min.min ((IntKind.wrap .u64 64).toNat) 64))) - 1) = 18446744073709551615 := by decide +kernel
    have next : ∀ (d : Int), d = hv c.toNat → 0 ≤ d → ∀ (h5 : Hp), Step [] h1 [] h5 →
        I0 [.bool false, .int .u64 0, .nilIface, .int .u64 (IntKind.wrap .u64 ((IntKind.wrap .u64 ((uv (l.take i) : Int) * 16)) + (IntKind.wrap .u64 d))), .int .i64 (IntKind.wrap .i64 ((i : Int) + 1))] h5 ∧
        x0 [.bool false, .int .u64 0, .nilIface, .int .u64 (IntKind.wrap .u64 ((IntKind.wrap .u64 ((uv (l.take i) : Int) * 16)) + (IntKind.wrap .u64 d))), .int .i64 (IntKind.wrap .i64 ((i : Int) + 1))] h5 < x0 [.bool false, .int .u64 0, .nilIface, .int .u64 (uv (l.take i) : Int), .int .i64 (i : Int)] h1 := by
      intro d ed d0 h5 s5
      have d16 := hv_lt c.toNat
      rw [← ed] at d16
      rw [wrapN (m := i + 1) (by simp) (by omega), wrapU64 (n := (uv (l.take i) : Int) * 16) (m := uv (l.take i) * 16) (by omega) (by omega), wrapU64 (n := d) (m := d.toNat) (by omega) (by omega), wrapU64 (m := uv (l.take i) * 16 + d.toNat) (by omega) (by omega)]
      refine ⟨?_, ?_⟩
      · rw [hI0]
        refine ⟨i + 1, by rw [et, uv_snoc, ← ed], by omega, by rw [et]; exact uok_snoc ok (by omega), st.trans s5⟩
      · rw [hx0]
        show 16 - ((i + 1 : Nat) : Int).toNat < 16 - (i : Int).toNat
        omega
    have noover : ∀ (d : Int), d = hv c.toNat → 0 ≤ d → decide ((1152921504606846976 : Int) ≤ (uv (l.take i) : Int)) = false ∧
        decide ((IntKind.wrap .u64 ((IntKind.wrap .u64 ((uv (l.take i) : Int) * 16)) + (IntKind.wrap .u64 d))) < (IntKind.wrap .u64 ((uv (l.take i) : Int) * 16))) = false ∧
        decide ((18446744073709551615 : Int) < (IntKind.wrap .u64 ((IntKind.wrap .u64 ((uv (l.take i) : Int) * 16)) + (IntKind.wrap .u64 d)))) = false := by
      intro d ed d0
      have d16 := hv_lt c.toNat
      rw [← ed] at d16
      rw [wrapU64 (n := (uv (l.take i) : Int) * 16) (m := uv (l.take i) * 16) (by omega) (by omega), wrapU64 (n := d) (m := d.toNat) (by omega) (by omega), wrapU64 (m := uv (l.take i) * 16 + d.toNat) (by omega) (by omega)]
      exact ⟨decide_eq_false (by omega), decide_eq_false (by omega), decide_eq_false (by omega)⟩
    have k16 : ¬ (48 ≤ c.toNat ∧ c.toNat ≤ 57) → internal_strconv_ParseUint.k16 (c.toNat : Int) h1 K (uv (l.take i) : Int) I0 false 0 .nilIface (i : Int) x0 := fun nd => by
      unfold internal_strconv_ParseUint.k16
      refine lower_spec ⟨_, rfl, ?_⟩
      unfold internal_strconv_ParseUint.k15
      refine bcase_intro (fun q1 => ?_) fun q1 => bad (Step.refl _ _) (tab_none c256 nd fun z => by have := of_decide_eq_false q1; omega)
      have q1 := of_decide_eq_true q1
      unfold internal_strconv_ParseUint.k14
      refine lower_spec ⟨_, rfl, ?_⟩
      unfold internal_strconv_ParseUint.k13
      refine bcase_intro (fun q2 => ?_) fun q2 => bad (Step.refl _ _) (tab_none c256 nd fun z => by have := of_decide_eq_false q2; omega)
      have q2 := of_decide_eq_true q2
      have tl := tab_letter c256 nd ⟨q1, q2⟩
      unfold internal_strconv_ParseUint.k12
      refine lower_spec ⟨_, rfl, ?_⟩
      unfold internal_strconv_ParseUint.k11
      rw [w16']
      refine bcase_intro (fun q3 => ?_) fun q3 => ?_
      · rw [if_pos (of_decide_eq_true q3)] at tl
        exact bad (Step.refl _ _) tl
      · rw [if_neg (of_decide_eq_false q3)] at tl
        have d0 : 0 ≤ IntKind.wrap .u8 (IntKind.wrap .u8 (lo c.toNat - 97) + 10) := by rw [IntKind.wrap_u8]; omega
        obtain ⟨o1, o2, o3⟩ := noover _ tl.symm d0
        have nx := next _ tl.symm d0 h1 (Step.refl _ _)
        unfold internal_strconv_ParseUint.k10
        refine bcF o1 ?_
        unfold internal_strconv_ParseUint.k9
        rw [w16]
        refine bcF o2 ?_
        unfold internal_strconv_ParseUint.k8
        rw [w16, wmax]
        refine bcF o3 ?_
        unfold internal_strconv_ParseUint.k7
        rw [w16]
        exact nx
    have k18 : internal_strconv_ParseUint.k18 (c.toNat : Int) K h1 (uv (l.take i) : Int) I0 false 0 .nilIface (i : Int) x0 := by
      unfold internal_strconv_ParseUint.k18
      refine bcase_intro (fun q1 => ?_) fun q1 => k16 fun z => by have := of_decide_eq_false q1; omega
      have q1 := of_decide_eq_true q1
      unfold internal_strconv_ParseUint.k17
      refine bcase_intro (fun q2 => ?_) fun q2 => k16 fun z => by have := of_decide_eq_false q2; omega
      have q2 := of_decide_eq_true q2
      obtain ⟨e1, e2⟩ := tab_digit c256 ⟨by omega, by omega⟩
      unfold internal_strconv_ParseUint.k6
      rw [w16', e2]
      refine bcF (decide_eq_false (by omega)) ?_
      have d0 : 0 ≤ (c.toNat : Int) - 48 := by omega
      obtain ⟨o1, o2, o3⟩ := noover _ e1.symm d0
      have nx := next _ e1.symm d0 h1 (Step.refl _ _)
      unfold internal_strconv_ParseUint.k5
      refine bcF o1 ?_
      unfold internal_strconv_ParseUint.k4
      rw [w16, e2]
      refine bcF o2 ?_
      unfold internal_strconv_ParseUint.k3
      rw [w16, wmax, e2]
      refine bcF o3 ?_
      unfold internal_strconv_ParseUint.k2
      rw [w16, e2]
      exact nx
    unfold internal_strconv_ParseUint.k19
    rw [someD_some, Int.toNat_natCast]
    refine ⟨by omega, by omega, _, ?_, bcase_intro (fun _ => k18) fun _ => k18⟩
    rw [Nat.mul_one, Addr.add_mk, Nat.zero_add]
    exact cell_stepH st (hc i c hcc)
  · have hi' : i = 16 := by have := of_decide_eq_false hc'; omega
    rw [show l.take i = l by rw [hi']; exact List.take_of_length_le (by omega)] at ok ⊢
    unfold internal_strconv_ParseUint.k22
    exact bcF rfl (hk1 ok h1 St)
theorem parse_spec (en : Env h) {s : ByteArray} (hl : s.data.toList.length = 16) (hk1 : uok s.data.toList → ∀ h', Step [] h [] h' → K (.tuple #[.int .u64 (uv s.data.toList : Int), .nilIface]) h')
    (hk0 : ¬ uok s.data.toList → ∀ t v h', Step [] h [] h' → K (.tuple #[.int .u64 0, .iface t v]) h') : HC P strconv_ParseUint.n #[.string s, .int .i64 16, .int .i64 64] h K := by
  have es : s.size = s.data.toList.length := Lib.size_eq _
  refine strconv_ParseUint.hc ?_
  unfold strconv_ParseUint
  refine parseU_spec hl (fun ok h1 s1 => ⟨_, _, rfl, ?_⟩) fun no h1 s1 => ⟨_, _, rfl, ?_⟩
  · unfold strconv_ParseUint.k0
    exact .inl ⟨rfl, hk1 ok h1 s1⟩
  · unfold strconv_ParseUint.k0
    exact .inr ⟨_, _, rfl, toError_spec (en.step s1) (by omega) fun t v h2 s2 => ⟨_, rfl, hk0 no t v h2 (s1.trans s2)⟩⟩
end Go.Den.Mon
end

section
set_option linter.unusedVariables false
set_option maxRecDepth 100000
namespace Go.Den.Mon
open Go Go.Den
def stp (q : Nat × List Nat) (b : UInt8) : Nat × List Nat :=
  if 0 ≤ hv b.toNat then (q.1 + 1, if q.1 < 32 then q.2.set (q.1 / 2) ((q.2.getD (q.1 / 2) 0 * 16 + (hv b.toNat).toNat) % 256) else q.2) else q
def scan (l : List UInt8) : Nat × List Nat := l.foldl stp (0, z16)
def la (b : UInt8) : UInt8 := if 65 ≤ b.toNat ∧ b.toNat ≤ 70 then (b.toNat + 32).toUInt8 else b
theorem stp_is {q : Nat × List Nat} {b : UInt8} (hq : isG q.2) : isG (stp q b).2 := by
  unfold stp
  split
  · show isG (if q.1 < 32 then _ else _)
    split
    · exact isG_set hq (Nat.mod_lt _ (by omega))
    · exact hq
  · exact hq
theorem scan_snoc {l : List UInt8} {b : UInt8} : scan (l ++ [b]) = stp (scan l) b := by simp [scan]
theorem fold_is : ∀ (l : List UInt8) (q : Nat × List Nat), isG q.2 → isG (l.foldl stp q).2
  | [], _, h => h
  | b :: l, q, h => fold_is l _ (stp_is h)
theorem scan_is (l : List UInt8) : isG (scan l).2 := fold_is l _ z16_is
theorem stp_le {q : Nat × List Nat} {b : UInt8} : (stp q b).1 ≤ q.1 + 1 := by unfold stp; split <;> simp
theorem fold_le : ∀ (l : List UInt8) (q : Nat × List Nat), (l.foldl stp q).1 ≤ q.1 + l.length
  | [], _ => by simp
  | b :: l, q => by
    have := fold_le l (stp q b); have := stp_le (q := q) (b := b)
    rw [List.foldl_cons, List.length_cons]; omega
theorem scan_le (l : List UInt8) : (scan l).1 ≤ l.length := by have := fold_le l (0, z16); unfold scan; omega
theorem la_toNat (b : UInt8) : (la b).toNat = if 65 ≤ b.toNat ∧ b.toNat ≤ 70 then b.toNat + 32 else b.toNat := by
  unfold la
  split
  · show (b.toNat + 32) % 256 = _; omega
  · rfl
theorem take_snoc {l : List UInt8} {j : Nat} (hj : j < l.length) : l.take (j + 1) = l.take j ++ [l.getD j 0] := by
  rw [List.take_add_one, List.getElem?_eq_getElem hj, List.getD, List.getElem?_eq_getElem hj]; rfl
theorem hv_out {n : Nat} (h1 : ¬ (48 ≤ n ∧ n ≤ 57)) (h2 : ¬ (97 ≤ n ∧ n ≤ 102)) (h3 : ¬ (65 ≤ n ∧ n ≤ 70)) : hv n = -1 := by unfold hv; rw [if_neg h1, if_neg h2, if_neg h3]

/-! ### The places of what is printed -/
theorem pr_length {g : List Nat} : ∀ (k : Nat), (pr g k).length = at' k
  | 0 => rfl
  | k + 1 => by
    have ih := pr_length (g := g) k
    have hs : at' k + (sep k).length = pos k := by
      unfold sep
      cases hd : dash k with
      | true => simp [pos_dash hd]
      | false => simp [pos_plain hd]
    simp only [pr, List.length_append, hex2, List.length_cons, List.length_nil, ih]
    rw [at_succ]; omega
theorem pr_pre {g : List Nat} (k : Nat) : ∀ (m : Nat), ∃ t, pr g (k + m) = pr g k ++ t
  | 0 => ⟨[], by simp⟩
  | m + 1 => by
    obtain ⟨t, e⟩ := pr_pre k m
    refine ⟨t ++ (sep (k + m) ++ hex2 (g.getD (k + m) 0)), ?_⟩
    show pr g (k + m) ++ sep (k + m) ++ hex2 (g.getD (k + m) 0) = _
    rw [e]; simp
theorem prL_38 {g : List Nat} : (prL g).length = 38 := by unfold prL; rw [List.length_append, pr_length]; rfl
theorem prL_at {g : List Nat} {k : Nat} (hk : k < 16) : (prL g).getD (pos k) 0 = hexc (g.getD k 0 / 16) ∧ (prL g).getD (pos k + 1) 0 = hexc (g.getD k 0 % 16) := by
  obtain ⟨t, e⟩ := pr_pre (g := g) (k + 1) (15 - k)
  have e16 : k + 1 + (15 - k) = 16 := by omega
  rw [e16] at e
  have hl : (pr g k ++ sep k).length = pos k := by
    rw [List.length_append, pr_length]
    unfold sep
    cases hd : dash k with
    | true => simp [pos_dash hd]
    | false => simp [pos_plain hd]
  have : prL g = (pr g k ++ sep k) ++ (hexc (g.getD k 0 / 16) :: hexc (g.getD k 0 % 16) :: (t ++ [125])) := by
    unfold prL; rw [e]; simp [pr, hex2]
  rw [this]
  constructor
  · rw [List.getD, List.getElem?_append_right (by omega), hl, Nat.sub_self]; rfl
  · rw [List.getD, List.getElem?_append_right (by omega), hl, show pos k + 1 - pos k = 1 by omega]; rfl
theorem hv_hexcs : ((List.range 16).all fun d => hv (hexc d).toNat == (d : Int)) = true := by decide +kernel
theorem hv_hexc {d : Nat} (hd : d < 16) : hv (hexc d).toNat = (d : Int) := by simpa using List.all_eq_true.1 hv_hexcs d (List.mem_range.2 hd)

/-! ### The signs that are printed -/
def Q (b : UInt8) : Prop := b = 123 ∨ b = 45 ∨ b = 125 ∨ ∃ d, d < 16 ∧ b = hexc d
theorem pr_Q {g : List Nat} (hg : ∀ x ∈ g, x < 256) : ∀ (k : Nat), ∀ b ∈ pr g k, Q b
  | 0, b, hb => by simp [pr] at hb; exact .inl hb
  | k + 1, b, hb => by
    have hx : g.getD k 0 < 256 := by
      rw [List.getD]
      cases e : g[k]? with
      | none => decide
      | some x => exact hg x (List.mem_of_getElem? e)
    rcases List.mem_append.1 hb with hb | hb
    · rcases List.mem_append.1 hb with hb | hb
      · exact pr_Q hg k b hb
      · unfold sep at hb
        split at hb
        · simp at hb; exact .inr (.inl hb)
        · simp at hb
    · simp only [hex2, List.mem_cons, List.not_mem_nil, or_false] at hb
      rcases hb with rfl | rfl
      · exact .inr (.inr (.inr ⟨_, by omega, rfl⟩))
      · exact .inr (.inr (.inr ⟨_, by omega, rfl⟩))
theorem prL_Q {g : List Nat} (hg : isG g) : ∀ b ∈ prL g, Q b := fun b hb => by
  rcases List.mem_append.1 hb with hb | hb
  · exact pr_Q hg.2 16 b hb
  · simp at hb; exact .inr (.inr (.inl hb))
theorem Q_nat {b : UInt8} (q : Q b) : b.toNat = 123 ∨ b.toNat = 45 ∨ b.toNat = 125 ∨ (48 ≤ b.toNat ∧ b.toNat ≤ 57) ∨ (97 ≤ b.toNat ∧ b.toNat ≤ 102) := by
  rcases q with rfl | rfl | rfl | ⟨d, hd, rfl⟩
  · exact .inl rfl
  · exact .inr (.inl rfl)
  · exact .inr (.inr (.inl rfl))
  · rw [hexc_toNat hd]; split <;> omega
theorem lower_nat (b : UInt8) : (Lib.lowerB b).toNat = if 65 ≤ b.toNat ∧ b.toNat ≤ 90 then b.toNat + 32 else b.toNat := by
  have e : Lib.isUpperB b = decide (65 ≤ b.toNat ∧ b.toNat ≤ 90) := by
    unfold Lib.isUpperB
    rw [Bool.eq_iff_iff, Bool.and_eq_true, decide_eq_true_iff, decide_eq_true_iff, decide_eq_true_iff, UInt8.le_iff_toNat_le, UInt8.le_iff_toNat_le]
    exact Iff.rfl
  unfold Lib.lowerB
  rw [e]
  by_cases h : 65 ≤ b.toNat ∧ b.toNat ≤ 90
  · rw [if_pos (by simpa using h), if_pos h, UInt8.toNat_add]
    show (b.toNat + 32) % 256 = _; omega
  · rw [if_neg (by simpa using h), if_neg h]
theorem lower_la {b : UInt8} (q : Q (la b)) : Lib.lowerB b = la b := by
  apply UInt8.toNat_inj.1
  have := Q_nat q
  rw [la_toNat] at this
  rw [lower_nat, la_toNat]
  by_cases h1 : 65 ≤ b.toNat ∧ b.toNat ≤ 70
  · rw [if_pos h1, if_pos (by omega)]
  · rw [if_neg h1] at this
    rw [if_neg h1, if_neg (by omega)]
theorem la_Q {b : UInt8} (q : Q b) : la b = b := by
  apply UInt8.toNat_inj.1
  have := Q_nat q
  rw [la_toNat, if_neg (by omega)]
theorem la_128 {b : UInt8} (q : Q (la b)) : b.toNat < 128 := by
  have := Q_nat q
  rw [la_toNat] at this
  split at this <;> omega
theorem hv_la (b : UInt8) : hv (la b).toNat = hv b.toNat := by
  rw [la_toNat]
  split
  · rename_i h
    unfold hv
    rw [if_neg (by omega), if_pos (by omega), if_neg (by omega), if_neg (by omega), if_pos h]; omega
  · rfl

/-! ### What the document takes -/
def Acc (l : List UInt8) (g : List Nat) : Prop := l.map la = prL g
section
variable {l : List UInt8} {g : List Nat}
theorem Acc.len (a : Acc l g) : l.length = 38 := by have := congrArg List.length a; rwa [List.length_map, prL_38] at this
theorem Acc.Q (a : Acc l g) (hg : isG g) : ∀ b ∈ l, Q (la b) := fun b hb => prL_Q hg _ (by rw [← a]; exact List.mem_map_of_mem hb)
theorem Acc.ascii (a : Acc l g) (hg : isG g) : ∀ b ∈ l, b.toNat < 128 := fun b hb => la_128 (a.Q hg b hb)
theorem Acc.low (a : Acc l g) (hg : isG g) : Lib.toLowerA l = prL g := by
  rw [← a]
  exact List.map_congr_left fun b hb => lower_la (a.Q hg b hb)
theorem Acc.hv (a : Acc l g) {p : Nat} (hp : p < 38) : hv (by' l p) = hv ((prL g).getD p 0).toNat := by
  have hl := a.len
  have e : (prL g).getD p 0 = la (l.getD p 0) := by
    rw [← a, List.getD, List.getD, List.getElem?_map, List.getElem?_eq_getElem (by omega)]; rfl
  rw [e, hv_la]; rfl
theorem Acc.dig (a : Acc l g) (hg : isG g) {i : Nat} (hi : i < 16) : Go.Den.Mon.hv (by' l (pos i)) = ((g.getD i 0 / 16 : Nat) : Int) ∧ Go.Den.Mon.hv (by' l (pos i + 1)) = ((g.getD i 0 % 16 : Nat) : Int) := by
  have hp := pos_lt hi
  have hx : g.getD i 0 < 256 := by
    rw [List.getD]
    cases e : g[i]? with
    | none => decide
    | some x => exact hg.2 x (List.mem_of_getElem? e)
  rw [a.hv (by omega), a.hv (by omega), (prL_at hi).1, (prL_at hi).2]
  exact ⟨hv_hexc (by omega), hv_hexc (by omega)⟩
theorem Acc.part (a : Acc l g) (hg : isG g) : part l 16 = g := by
  apply List.ext_getElem?
  intro j
  unfold Go.Den.Mon.part
  rw [List.getElem?_map]
  by_cases hj : j < 16
  · rw [List.getElem?_range hj, Option.map_some, if_pos hj, List.getElem?_eq_getElem (by rw [hg.1]; exact hj)]
    have h := a.dig hg hj
    have e : g.getD j 0 = g[j]'(by rw [hg.1]; exact hj) := by rw [List.getD, List.getElem?_eq_getElem]; rfl
    rw [e] at h
    unfold val
    rw [h.1, h.2]
    congr 1
    omega
  · rw [List.getElem?_eq_none (by simp; omega), List.getElem?_eq_none (by rw [hg.1]; omega)]; rfl
theorem Acc.acc (a : Acc l g) (hg : isG g) : acc l (Lib.toLowerA l) := ⟨a.len, fun i hi => by
  have h := a.dig hg hi
  exact ⟨by rw [h.1]; omega, by rw [h.2]; omega⟩, by rw [a.part hg, a.low hg]⟩
theorem acc_self (hg : isG g) : Acc (prL g) g := by
  show (prL g).map la = prL g
  conv => rhs; rw [← List.map_id (prL g)]
  exact List.map_congr_left fun b hb => la_Q (prL_Q hg b hb)
end

/-! ### What the document reads, digit by digit -/
theorem stp_no {q : Nat × List Nat} {b : UInt8} (h : hv b.toNat < 0) : stp q b = q := by unfold stp; rw [if_neg (by omega)]
def lead (g : List Nat) (k : Nat) : List Nat := (List.range 16).map fun j => if j < k then g.getD j 0 else 0
theorem lead_len {g : List Nat} {k : Nat} : (lead g k).length = 16 := by simp [lead]
theorem lead_get {g : List Nat} {k j : Nat} (hj : j < 16) : (lead g k).getD j 0 = if j < k then g.getD j 0 else 0 := by
  rw [List.getD, lead, List.getElem?_map, List.getElem?_range hj]; rfl
theorem lead_set {g : List Nat} {k : Nat} (hk : k < 16) : (lead g k).set k (g.getD k 0) = lead g (k + 1) := by
  apply List.ext_getElem?
  intro j
  rw [List.getElem?_set, lead_len]
  unfold lead
  rw [List.getElem?_map, List.getElem?_map]
  by_cases hj : j < 16
  · rw [List.getElem?_range hj]
    simp only [Option.map_some]
    by_cases e : k = j
    · subst e; rw [if_pos rfl, if_pos hk, if_pos (by omega)]
    · rw [if_neg e]
      congr 1
      by_cases h1 : j < k
      · rw [if_pos h1, if_pos (by omega)]
      · rw [if_neg h1, if_neg (by omega)]
  · rw [if_neg (by omega), List.getElem?_eq_none (by simp; omega)]; rfl
theorem stp_even {L : List Nat} {k d : Nat} (hk : k < 16) (hd : d < 16) (h0 : L.getD k 0 = 0) : stp (2 * k, L) (hexc d) = (2 * k + 1, L.set k d) := by
  unfold stp
  rw [hv_hexc hd, if_pos (by omega)]
  simp only [Int.toNat_natCast]
  rw [if_pos (by omega), show 2 * k / 2 = k by omega, h0, Nat.zero_mul, Nat.zero_add, Nat.mod_eq_of_lt (by omega)]
theorem stp_odd {L : List Nat} {k d m : Nat} (hk : k < 16) (hd : d < 16) (hm : m < 16) (hl : L.length = 16) : stp (2 * k + 1, L.set k d) (hexc m) = (2 * k + 2, L.set k (d * 16 + m)) := by
  unfold stp
  rw [hv_hexc hm, if_pos (by omega)]
  simp only [Int.toNat_natCast]
  have e : (L.set k d).getD k 0 = d := by rw [List.getD, List.getElem?_set, if_pos rfl, if_pos (by omega)]; rfl
  rw [if_pos (by omega), show (2 * k + 1) / 2 = k by omega, e, List.set_set, Nat.mod_eq_of_lt (by omega)]
theorem scan_pr {g : List Nat} (hg : ∀ x ∈ g, x < 256) : ∀ (k : Nat), k ≤ 16 → scan (pr g k) = (2 * k, lead g k)
  | 0, _ => rfl
  | k + 1, hk => by
    have ih := scan_pr hg k (by omega)
    have hx : g.getD k 0 < 256 := by
      rw [List.getD]
      cases e : g[k]? with
      | none => decide
      | some x => exact hg x (List.mem_of_getElem? e)
    have hs : scan (pr g k ++ sep k) = (2 * k, lead g k) := by
      unfold sep
      split
      · rw [scan_snoc, ih, stp_no (by decide)]
      · rw [List.append_nil, ih]
    have e : pr g (k + 1) = (pr g k ++ sep k ++ [hexc (g.getD k 0 / 16)]) ++ [hexc (g.getD k 0 % 16)] := by simp [pr, hex2]
    have s1 : stp (2 * k, lead g k) (hexc (g.getD k 0 / 16)) = (2 * k + 1, (lead g k).set k (g.getD k 0 / 16)) := stp_even (by omega) (by omega) (by rw [lead_get (by omega), if_neg (by omega)])
    have s2 : stp (2 * k + 1, (lead g k).set k (g.getD k 0 / 16)) (hexc (g.getD k 0 % 16)) = (2 * k + 2, (lead g k).set k (g.getD k 0)) := by
      rw [stp_odd (by omega) (by omega) (by omega) lead_len, show g.getD k 0 / 16 * 16 + g.getD k 0 % 16 = g.getD k 0 by omega]
    rw [e, scan_snoc, scan_snoc, hs, s1, s2, lead_set (by omega)]
    rfl
theorem lead_all {g : List Nat} (hg : g.length = 16) : lead g 16 = g := by
  apply List.ext_getElem?
  intro j
  unfold lead
  rw [List.getElem?_map]
  by_cases hj : j < 16
  · rw [List.getElem?_range hj, Option.map_some, if_pos hj, List.getD, List.getElem?_eq_getElem (by omega)]; rfl
  · rw [List.getElem?_eq_none (by simp; omega), List.getElem?_eq_none (by omega)]; rfl
theorem fold_la : ∀ (l : List UInt8) (q : Nat × List Nat), (l.map la).foldl stp q = l.foldl stp q
  | [], _ => rfl
  | b :: l, q => by
    have e : stp q (la b) = stp q b := by unfold stp; rw [hv_la]
    rw [List.map_cons, List.foldl_cons, List.foldl_cons, e, fold_la]
theorem Acc.scan {l : List UInt8} {g : List Nat} (a : Acc l g) (hg : isG g) : (scan l).2 = g := by
  have e : Go.Den.Mon.scan l = Go.Den.Mon.scan (prL g) := by unfold Go.Den.Mon.scan; rw [← a, fold_la]
  rw [e]
  unfold prL
  rw [scan_snoc, scan_pr hg.2 16 (Nat.le_refl _), stp_no (by decide), lead_all hg.1]

/-! ### Bytes beyond ASCII -/
theorem hv_128 {n : Nat} (h : 0 ≤ hv n) : n < 128 := by
  unfold hv at h
  split at h
  · omega
  · split at h
    · omega
    · split at h
      · omega
      · omega
theorem Acc_acc {l : List UInt8} {g : List Nat} (hg : isG g) (a : Acc l g) : acc l (Lib.toLowerD l) := by
  rw [Lib.toLowerD_ascii l (a.ascii hg)]; exact a.acc hg
end Go.Den.Mon
end

section
set_option linter.unusedVariables false
set_option maxRecDepth 100000
namespace Go.Den.Mon
open Go Go.Den
variable {h : Hp} {K : Value → Hp → Prop}
/-- A text of these bytes. -/
def str (l : List UInt8) : ByteArray := ⟨l.toArray⟩
theorem str_l {l : List UInt8} : (str l).data.toList = l := by simp [str]
theorem str_self {s : ByteArray} : str s.data.toList = s := by unfold str; simp
theorem str_size {l : List UInt8} : (str l).size = l.length := by rw [Lib.size_eq, str_l]
theorem str_get {l : List UInt8} {p : Nat} {c : UInt8} (hp : l[p]? = some c) : (str l)[p]? = some c := ba_some (by rw [str_l]; exact hp)
theorem sub_eq {s : ByteArray} {lo hi : Nat} : (⟨((#[] ++ Array.extract (ByteArray.data s) lo (lo + (hi - lo))) ++ Array.extract #[] (0 + Min.min (hi - lo) ((ByteArray.data s).size - lo)) 0)⟩ : ByteArray) = str ((s.data.toList.drop lo).take (hi - lo)) := by
  unfold str
  congr 1
  apply Array.ext'
  simp only [Array.toList_append, Array.toList_extract, List.toList_toArray, List.nil_append]
  simp [List.extract_eq_take_drop]
theorem cut1 {c : UInt8} {l : List UInt8} : (⟨((#[] ++ Array.extract (ByteArray.data (str (c :: l))) ((1 : Int).toNat) ((1 : Int).toNat + ((str (c :: l)).size - (1 : Int).toNat))) ++ Array.extract #[] (0 + Min.min ((str (c :: l)).size - (1 : Int).toNat) ((ByteArray.data (str (c :: l))).size - (1 : Int).toNat)) 0)⟩ : ByteArray) = str l := by
  rw [sub_eq, str_l, str_size]
  show str (l.take (l.length + 1 - 1)) = _
  rw [Nat.add_sub_cancel, List.take_length]
def sgn (c : UInt8) : Bool := spc c && !(c.toNat == 92)
theorem sgn_neg (c : UInt8) : decide (Lib.indexByte signs.data.toList c < 0) = !sgn c := by
  have := idx_sign c
  unfold sgn
  rw [← this, ← decide_not]
  exact decide_eq_decide.2 (by omega)
/-- An item's text, and what is behind it. -/
def rdItem : List UInt8 → Option (List UInt8 × List UInt8)
  | [] => some ([], [])
  | c :: l => if sgn c then some ([], c :: l) else if c = 92 then (match l with | [] => none | d :: l' => if spc d then (rdItem l').map fun q => (d :: q.1, q.2) else none) else (rdItem l).map fun q => (c :: q.1, q.2)
theorem rdItem_c {c : UInt8} {l : List UInt8} : rdItem (c :: l) = if sgn c then some ([], c :: l) else if c = 92 then (match l with | [] => none | d :: l' => if spc d then (rdItem l').map fun q => (d :: q.1, q.2) else none) else (rdItem l).map fun q => (c :: q.1, q.2) := by
  conv => lhs; rw [rdItem.eq_def]
theorem sgn92 : sgn 92 = false := by decide +kernel
theorem nat92 {c : UInt8} : ((c.toNat : Int) == 92) = decide (c = 92) := by
  rw [Bool.eq_iff_iff, beq_iff_eq, decide_eq_true_iff]
  constructor
  · intro q
    rw [← toU8 c, show c.toNat = 92 by omega]; rfl
  · rintro rfl; rfl
theorem item_spec {l : List UInt8} (hl : l.length < 500000) (k1 : ∀ t r, rdItem l = some (t, r) → ∀ h', Step [] h [] h' → K (.tuple #[.string (str t), .string (str r), .bool true]) h')
    (k0 : rdItem l = none → ∀ h', Step [] h [] h' → K (.tuple #[.string (⟨#[]⟩ : ByteArray), .string (⟨#[]⟩ : ByteArray), .bool false]) h') : HC P moniker_item.n #[.string (str l)] h K := by
  refine moniker_item.hc ?_
  unfold moniker_item
  obtain ⟨I0, hI0⟩ : ∃ I0 : List Value → Hp → Prop, I0 = fun vs hh => ∃ (t r : List UInt8) (a : Option Addr) (c : Nat) (o : List Nat), vs = [.string (⟨#[]⟩ : ByteArray), .string (⟨#[]⟩ : ByteArray), .bool false, .slice a t.length c, .string (str r)] ∧ t.length + r.length ≤ l.length ∧ rdItem l = (rdItem r).map (fun q => (t ++ q.1, q.2)) ∧ RP h t a c o hh := ⟨_, rfl⟩
  obtain ⟨x0, hx0⟩ : ∃ x0 : List Value → Hp → Nat, x0 = fun vs _ => match vs with | [_, _, _, _, .string s] => s.size | _ => 0 := ⟨_, rfl⟩
  refine ⟨I0, x0, ?_, ?_⟩
  · rw [hI0]
    refine ⟨[], l, none, 0, [], rfl, by simp, ?_, ⟨.none, Step.refl _ _⟩⟩
    cases rdItem l <;> simp
  intro h0 s1 s2 b0 a0 n0 c0 s3 hin
  rw [hI0] at hin
  obtain ⟨t, r, a, c, o, he, hlen, hrd, w⟩ := hin
  have e1' : s1 = (⟨#[]⟩ : ByteArray) ∧ s2 = (⟨#[]⟩ : ByteArray) ∧ b0 = false ∧ a0 = a ∧ n0 = t.length ∧ c0 = c ∧ s3 = str r := by cases he; exact ⟨rfl, rfl, rfl, rfl, rfl, rfl, rfl⟩
  clear he
  obtain ⟨rfl, rfl, rfl, rfl, rfl, rfl, rfl⟩ := e1'
  have exit : ∀ {r'} , r' = r → (rdItem r = some ([], r)) → moniker_item.k9 a0 t.length c0 K (str r') h0 := fun {r'} er e => by
    subst er
    unfold moniker_item.k9
    refine bytesStr_wp w.sl.src ⟨_, rfl, k1 t r' ?_ h0 w.st.forget0⟩
    rw [hrd, e]; simp
  have fail : rdItem r = none → K (.tuple #[.string (⟨#[]⟩ : ByteArray), .string (⟨#[]⟩ : ByteArray), .bool false]) h0 := fun e => k0 (by rw [hrd, e]; rfl) h0 w.st.forget0
  rw [str_size]
  refine bcase_intro (fun hc => ?_) fun hc => ?_
  case refine_2 =>
    have : r = [] := List.length_eq_zero_iff.1 (by have := of_decide_eq_false hc; omega)
    exact exit rfl (by rw [this]; rfl)
  obtain ⟨d, r, rfl⟩ : ∃ d r', r = d :: r' := by
    cases r with
    | nil => simp at hc
    | cons d r => exact ⟨d, r, rfl⟩
  simp only [List.length_cons] at hlen
  -- one byte more
  have more : ∀ (e : UInt8) (r2 : List UInt8) (a' : Option Addr) (c' : Nat) (o' : List Nat) (h' : Hp), r2.length ≤ r.length → rdItem (d :: r) = (rdItem r2).map (fun q => (e :: q.1, q.2)) → RP h (t ++ [e]) a' c' o' h' →
      I0 [.string (⟨#[]⟩ : ByteArray), .string (⟨#[]⟩ : ByteArray), .bool false, .slice a' (t ++ [e]).length c', .string (str r2)] h' ∧ x0 [.string (⟨#[]⟩ : ByteArray), .string (⟨#[]⟩ : ByteArray), .bool false, .slice a' (t ++ [e]).length c', .string (str r2)] h' < x0 [.string (⟨#[]⟩ : ByteArray), .string (⟨#[]⟩ : ByteArray), .bool false, .slice a0 t.length c0, .string (str (d :: r))] h0 := fun e r2 a' c' o' h' le er w' => by
    refine ⟨?_, ?_⟩
    · rw [hI0]
      refine ⟨t ++ [e], r2, a', c', o', rfl, by simp; omega, ?_, w'⟩
      rw [hrd, er, Option.map_map]
      congr 1
      funext q
      simp
    · rw [hx0]
      show (str r2).size < (str (d :: r)).size
      rw [str_size, str_size, List.length_cons]; omega
  unfold moniker_item.k11
  refine ⟨by omega, d, str_get rfl, sIndex_spec ⟨_, rfl, ?_⟩⟩
  rw [toU8]
  unfold moniker_item.k10
  rw [sgn_neg]
  refine bcase_intro (fun hs => ?_) fun hs => ?_
  case refine_2 =>
    have hs : sgn d = true := by simpa using hs
    exact exit rfl (by rw [rdItem_c, if_pos hs])
  have hs : sgn d = false := by simpa using hs
  unfold moniker_item.k8
  refine ⟨by omega, d, str_get rfl, ?_⟩
  rw [nat92]
  refine bcase_intro (fun h92 => ?_) fun h92 => ?_
  · have h92 : d = 92 := of_decide_eq_true h92
    subst h92
    unfold moniker_item.k5
    rw [cut1, txt_nil, str_size, str_size]
    refine ⟨by omega, by rw [List.length_cons]; omega, bcase_intro (fun hz => ?_) fun hz => ?_⟩
    · have hz : r = [] := List.length_eq_zero_iff.1 (of_decide_eq_true hz)
      exact fail (by rw [hz, rdItem_c, if_neg (by rw [sgn92]; simp), if_pos rfl])
    have hz := of_decide_eq_false hz
    obtain ⟨e, r, rfl⟩ : ∃ e r', r = e :: r' := by
      cases r with
      | nil => simp at hz
      | cons e r => exact ⟨e, r, rfl⟩
    have hr : rdItem (92 :: e :: r) = if spc e then (rdItem r).map fun q => (e :: q.1, q.2) else none := by
      rw [rdItem_c, if_neg (by rw [sgn92]; simp), if_pos rfl]
    have push : ∀ {hX : Hp}, hX = h0 → spc e = true → moniker_item.k1 (str (92 :: e :: r)) hX a0 t.length c0 I0 (⟨#[]⟩ : ByteArray) (⟨#[]⟩ : ByteArray) false x0 h0 := fun {hX} eX hp => by
      subst eX
      unfold moniker_item.k1
      rw [cut1]
      refine ⟨by omega, e, str_get rfl, fun b6 hb6 => w.byte hb6 e (by omega) fun a' c' o' h' w' => ⟨_, _, _, rfl, ?_⟩⟩
      unfold moniker_item.k0
      rw [cut1, cut1, str_size]
      exact ⟨by omega, by rw [List.length_cons]; omega, more e r a' c' o' h' (by simp) (by rw [hr, if_pos hp]) w'⟩
    unfold moniker_item.k4
    rw [cut1]
    refine ⟨by omega, e, str_get rfl, ?_⟩
    rw [show ((e.toNat : Int) != 92) = !decide (e = 92) by rw [← nat92]; rfl]
    refine bcase_intro (fun h2 => ?_) fun h2 => ?_
    · have h2 : ¬ e = 92 := by simpa using h2
      unfold moniker_item.k3
      rw [cut1]
      refine ⟨by omega, e, str_get rfl, sIndex_spec ⟨_, rfl, ?_⟩⟩
      rw [toU8]
      unfold moniker_item.k2
      rw [sgn_neg]
      have es : sgn e = spc e := by
        unfold sgn
        rw [show (e.toNat == 92) = false by
          rw [beq_eq_false_iff_ne]
          exact fun q => h2 (by rw [← toU8 e, q]; rfl)]
        simp
      rw [es]
      refine bcase_intro (fun hp => ?_) fun hp => push rfl (by simpa using hp)
      exact fail (by rw [hr, if_neg (by simpa using hp)])
    · have h2 : e = 92 := by simpa using h2
      exact push rfl (by rw [h2]; decide +kernel)
  · have h92 : ¬ d = 92 := of_decide_eq_false h92
    have hr : rdItem (d :: r) = (rdItem r).map fun q => (d :: q.1, q.2) := by rw [rdItem_c, if_neg (by simp [hs]), if_neg h92]
    unfold moniker_item.k7
    refine ⟨by omega, d, str_get rfl, fun b8 hb8 => w.byte hb8 d (by omega) fun a' c' o' h' w' => ⟨_, _, _, rfl, ?_⟩⟩
    unfold moniker_item.k6
    rw [cut1, str_size]
    exact ⟨by omega, by rw [List.length_cons]; omega, more d r a' c' o' h' (Nat.le_refl _) hr w'⟩
end Go.Den.Mon
end

section
set_option linter.unusedVariables false
set_option maxRecDepth 100000
namespace Go.Den.Mon
open Go Go.Den
variable {h : Hp} {K : Value → Hp → Prop}
def kd (k : Int) : Raw := ⟨k, z16, ⟨#[]⟩, 0, none, 0, 0⟩
theorem kd_ok {k : Int} (h1 : -9223372036854775808 ≤ k) (h2 : k < 9223372036854775808) : (kd k).Ok := ⟨z16_is, by show (0 : Nat) < _; omega, ⟨h1, h2⟩, by show (0 : Nat) ≤ _; omega⟩
open Classical in
/-- One part, and what is behind it. -/
noncomputable def rd : List UInt8 → Option (Raw × List UInt8)
  | [] => none
  | c :: l =>
    if c = 33 then (rdItem l).map fun q => ({ kd 1 with txt := str q.1 }, q.2)
    else if c = 58 then (if 38 ≤ l.length ∧ acc (l.take 38) (Lib.toLowerD (l.take 38)) ∧ prL (part (l.take 38) 16) = l.take 38 then some ({ kd 2 with id := part (l.take 38) 16 }, l.drop 38) else none)
    else if c = 64 then (if 16 ≤ l.length ∧ uok (l.take 16) ∧ Lib.toLowerA (l.take 16) = l.take 16 then some ({ kd 3 with H := uv (l.take 16) }, l.drop 16) else none)
    else if c = 46 then some (kd 4, l) else none
/-- So many parts, one behind the other. -/
inductive Rd (s : List UInt8) : List Raw → List UInt8 → Prop
  | nil : Rd s [] s
  | snoc {L : List Raw} {r r' : List UInt8} {x : Raw} : Rd s L r → rd r = some (x, r') → Rd s (L ++ [x]) r'
theorem cut0 {l : List UInt8} : (⟨((#[] ++ Array.extract (ByteArray.data (str l)) ((0 : Int).toNat) ((0 : Int).toNat + ((str l).size - (0 : Int).toNat))) ++ Array.extract #[] (0 + Min.min ((str l).size - (0 : Int).toNat) ((ByteArray.data (str l)).size - (0 : Int).toNat)) 0)⟩ : ByteArray) = str l := by
  rw [sub_eq, str_l, str_size]
  show str (l.take (l.length - 0)) = _
  rw [Nat.sub_zero, List.take_length]
theorem cutD {l : List UInt8} {k : Int} : (⟨((#[] ++ Array.extract (ByteArray.data (str l)) (k.toNat) (k.toNat + ((str l).size - k.toNat))) ++ Array.extract #[] (0 + Min.min ((str l).size - k.toNat) ((ByteArray.data (str l)).size - k.toNat)) 0)⟩ : ByteArray) = str (l.drop k.toNat) := by
  rw [sub_eq, str_l, str_size, ← List.length_drop, List.take_length]
theorem cutT {l : List UInt8} {k : Int} : (⟨((#[] ++ Array.extract (ByteArray.data (str l)) 0 (0 + (k.toNat - 0))) ++ Array.extract #[] (0 + Min.min (k.toNat - 0) ((ByteArray.data (str l)).size - 0)) 0)⟩ : ByteArray) = str (l.take k.toNat) := by
  rw [sub_eq, str_l, Nat.sub_zero, List.drop_zero]
theorem idx_kinds : ((List.range 256).all fun n => Lib.indexByte signs.data.toList n.toUInt8 == (if n = 33 then 0 else if n = 58 then 1 else if n = 64 then 2 else if n = 46 then 3 else -1)) = true := by decide +kernel
theorem idx_kind (c : UInt8) : Lib.indexByte signs.data.toList c = if c = 33 then 0 else if c = 58 then 1 else if c = 64 then 2 else if c = 46 then 3 else -1 := by
  have := List.all_eq_true.1 idx_kinds c.toNat (List.mem_range.2 (UInt8.toNat_lt c))
  rw [beq_iff_eq, toU8] at this
  rw [this]
  have q : ∀ k : UInt8, (c.toNat = k.toNat) = (c = k) := fun k => propext ⟨fun e => by rw [← toU8 c, e, toU8], fun e => by rw [e]⟩
  have q1 := q 33; have q2 := q 58; have q3 := q 64; have q4 := q 46
  simp only [show (33 : UInt8).toNat = 33 from rfl, show (58 : UInt8).toNat = 58 from rfl, show (64 : UInt8).toNat = 64 from rfl, show (46 : UInt8).toNat = 46 from rfl] at q1 q2 q3 q4
  simp only [q1, q2, q3, q4]
/-- A moniker behind others. -/
theorem monPush {hh : Hp} {b4 : Nat} {x : Raw} {a : Option Addr} {c : Nat} {out : List Raw} {o : List Nat} {C : Value → Hp → Prop} (k : x.Ok) (s : SlAt hh T.api_Moniker 20 AnyV a out.length c (mcs out) o) (hb4 : hh b4 = none) (hn : out.length < 1000000)
    (hk : ∀ a' c' o' h', SlAt h' T.api_Moniker 20 AnyV a' (out ++ [x]).length c' (mcs (out ++ [x])) o' → Step o hh o' h' → C (.slice a' (out ++ [x]).length c') h') :
    wpSem P (Builtin.append_ #[T.sl_api_Moniker, T.sl_api_Moniker] T.sl_api_Moniker #[.slice a out.length c, .slice (some ⟨b4, 0, none⟩) 1 1]) C (hh.put b4 (.cells (Array.mk (catA (mc x).toArray [])) T.api_Moniker (0, 0))) := by
  have n4 : ∀ q ∈ o, q ≠ b4 := fun q hq z => s.mem q hq (by rw [z]; exact hb4)
  refine append_wp (P := P) (Z := AnyV) (n := 1) slMon slMon.1 (s.keep fun q hq => put_ne (n4 q hq)) (fun _ _ _ _ _ _ => trivial) (src_one k) mcs_cellish (by omega) fun a' c' o' h' s' _ st => ?_
  have e : mcs out ++ mcs [x] = mcs (out ++ [x]) := by simp [mcs]
  have en : out.length + 1 = (out ++ [x]).length := by simp
  rw [e, en] at s'
  rw [en]
  exact hk a' c' o' h' s' ((Step.put (.inr hb4)).trans st)
/-- What is read so far. -/
structure PS (h : Hp) (b0 : Nat) (l0 : List UInt8) (L : List Raw) (a : Option Addr) (c : Nat) (o : List Nat) (hh : Hp) : Prop where
  sl : SlAt hh T.api_Moniker 20 AnyV a L.length c (mcs L) o
  z : hh b0 = some (.cells zMon T.api_Moniker (0, 0))
  nb : b0 ∉ o
  f0 : h b0 = none
  st : Step [] h (o ++ [b0]) hh
  ok : ∀ r ∈ L, r.Ok
  pl : ∀ r ∈ L, r.sn = 0 ∧ r.sa = none ∧ r.sc = 0 ∧ 1 ≤ r.kind ∧ r.kind ≤ 4
section
variable {b0 : Nat} {l0 : List UInt8} {L : List Raw} {a : Option Addr} {c : Nat} {o : List Nat} {hh h' : Hp}
theorem PS.step (w : PS h b0 l0 L a c o hh) (s : Step [] hh [] h') : PS h b0 l0 L a c o h' :=
  ⟨w.sl.keep fun q hq => s.keep q (w.sl.mem q hq) (by simp), s.keepB0 w.z, w.nb, w.f0, w.st.trans (by simpa using s.frame (o ++ [b0])), w.ok, w.pl⟩
/-- A block that is no one's is written. -/
theorem PS.wr {own : List Nat} (w : PS h b0 l0 L a c o hh) (s : Step own hh own h') (h1 : b0 ∉ own) (h2 : ∀ q ∈ o, q ∉ own) (h3 : ∀ q ∈ own, h q = none) : PS h b0 l0 L a c o h' := by
  refine ⟨w.sl.keep fun q hq => s.keep q (w.sl.mem q hq) (h2 q hq), by rw [s.keep b0 (by rw [w.z]; simp) h1]; exact w.z, w.nb, w.f0, ?_, w.ok, w.pl⟩
  have base := w.st
  refine ⟨fun k hk hn => ?_, fun k hk => base.own k hk, fun k hk => s.dom k (base.dom k hk)⟩
  rw [s.keep k (base.dom k hk) fun z => hk (h3 k z)]
  exact base.keep k hk hn
theorem PS.toH (w : PS h b0 l0 L a c o hh) : Step [] h [] hh := w.st.forget0
theorem PS.free (w : PS h b0 l0 L a c o hh) {b : Nat} (hb : hh b = none) : h b = none := Classical.byContradiction fun e => w.st.dom b e hb
/-- What is refused. -/
theorem fail0 {h3 : Hp} {b5 : Nat} {y : Raw} (k : y.Ok) (hb5 : h3 b5 = none) (z : h3 b0 = some (.cells zMon T.api_Moniker (0, 0))) (f0 : h b0 = none) (s3 : Step [] h [] h3) (hx : ∀ h', Step [] h [] h' → K (.tuple #[.agg (mc nl).toArray, .int .i64 18]) h') : moniker_Parse.k0 h3 b5 (mc y).toArray b0 K := by
  have n50 : b0 ≠ b5 := fun e => by rw [← e, z] at hb5; cases hb5
  unfold moniker_Parse.k0
  rw [newM k hb5]
  refine ⟨trivial, rfl, by simp [cellish], retM2 (y := nl) (C := fun v hh => K (.tuple #[v, .int .i64 18]) hh) nl_ok (by rw [put_ne n50]; exact z) (hx _ ?_)⟩
  have s4 : Step [] h [] (h3.put b5 (.cells (mc y).toArray T.api_Moniker (0, 0))) := s3.trans (Step.put (.inr hb5))
  refine ⟨fun q hq _ => ?_, by simp, fun q hq => ?_⟩
  · rw [put_ne fun e => hq (by rw [e]; exact f0)]
    exact s4.keep q hq (by simp)
  · unfold Hp.put; split
    · simp
    · exact s4.dom q hq
theorem PS.of (w : PS h b0 l0 L a c o hh) {C : Value → Hp → Prop} (hC : ∀ y n h3, y.Ok → PS h b0 l0 L a c o h3 → C (.tuple #[.agg (mc y).toArray, .int .i64 n]) h3) : HC P moniker_of.n #[.slice a L.length c] hh C :=
  gOf_got w.sl.src w.ok (fun _ h3 s3 => hC _ _ h3 (ofRaw_ok w.ok) (w.step s3)) fun _ h3 s3 => hC _ _ h3 nl_ok (w.step s3)
end
end Go.Den.Mon
end

section
set_option linter.unusedVariables false
set_option maxRecDepth 100000
namespace Go.Den.Mon
open Go Go.Den
variable {h : Hp} {K : Value → Hp → Prop}
theorem rdItem_len : ∀ {l t r : List UInt8}, rdItem l = some (t, r) → t.length + r.length ≤ l.length
  | [], t, r, e => by rw [rdItem] at e; cases e; simp
  | c :: l, t, r, e => by
    rw [rdItem_c] at e
    split at e
    · cases e; simp
    · split at e
      · cases l with
        | nil => cases e
        | cons d l =>
          simp only at e
          split at e
          · obtain ⟨⟨t', r'⟩, e1, e2⟩ := Option.map_eq_some_iff.1 e
            cases e2
            have := rdItem_len e1
            simp; omega
          · cases e
      · obtain ⟨⟨t', r'⟩, e1, e2⟩ := Option.map_eq_some_iff.1 e
        cases e2
        have := rdItem_len e1
        simp; omega
theorem toList_str {l : List UInt8} : ByteArray.toList (str l) = l := by rw [ByteArray.toList_eq, str_l]
theorem beq_dec {l m : List UInt8} : (l == m) = decide (l = m) := by rw [Bool.eq_iff_iff, beq_iff_eq, decide_eq_true_iff]
theorem idx_none : ∀ {l : List UInt8} {c : UInt8}, c ∉ l → Lib.indexByte l c = -1
  | [], _, _ => rfl
  | b :: l, c, hn => by
    have h1 : ¬ b = c := fun e => hn (by simp [e])
    have h2 := idx_none (l := l) (c := c) fun m => hn (by simp [m])
    unfold Lib.indexByte
    rw [if_neg (by simpa using h1), if_pos (by rw [h2]; rfl)]
theorem contains95 {l : List UInt8} (hl : l.length = 16) (ok : uok l) (hk : K (.bool false) h) : HC P strings_Contains.n #[.string (str l), .string (⟨#[95]⟩ : ByteArray)] h K := by
  have nin : (95 : UInt8) ∉ l := fun m => by
    have := ok 95 m
    revert this
    decide +kernel
  refine strings_Contains.hc ?_
  unfold strings_Contains
  refine strings_Index.hc ?_
  unfold strings_Index
  refine internal_stringslite_Index.hc ?_
  unfold internal_stringslite_Index
  refine bcF rfl ?_
  unfold internal_stringslite_Index.k38
  rw [toList_str]
  refine bcF ?_ ?_
  · rw [beq_eq_false_iff_ne]
    intro e
    have := congrArg List.length e
    rw [hl] at this
    revert this
    decide +kernel
  unfold internal_stringslite_Index.k37
  refine bcT rfl ?_
  unfold internal_stringslite_Index.k0
  refine ⟨by omega, 95, rfl, ?_⟩
  refine internal_stringslite_IndexByte.hc ?_
  unfold internal_stringslite_IndexByte
  refine indexByte_wp ⟨_, rfl, _, rfl, _, rfl, _, rfl, ?_⟩
  rw [str_l, show (UInt8.toNat 95).toUInt8 = 95 from rfl, idx_none nin]
  exact hk
abbrev ZK (k : Int) : Array Value := #[.int .i64 k, .int .u8 0, .int .u8 0, .int .u8 0, .int .u8 0, .int .u8 0, .int .u8 0, .int .u8 0, .int .u8 0, .int .u8 0, .int .u8 0, .int .u8 0, .int .u8 0, .int .u8 0, .int .u8 0, .int .u8 0, .int .u8 0, .string (⟨#[]⟩ : ByteArray), .int .u64 0, .slice none 0 0]
theorem kdM {k : Int} (kk : (kd k).Ok) {h0 : Hp} {b : Nat} (hb : h0 b = none) : (h0.put b (.cells zMon T.api_Moniker (0, 0))).setCells ⟨b, 0, none⟩ (ZK k) = h0.put b (.cells (mc (kd k)).toArray T.api_Moniker (0, 0)) := newM kk hb
theorem kdW {k j : Int} (e : IntKind.wrap .i64 j = k) (kk : (kd k).Ok) {h0 : Hp} {b : Nat} (hb : h0 b = none) : (h0.put b (.cells zMon T.api_Moniker (0, 0))).setCells ⟨b, 0, none⟩ (ZK (IntKind.wrap .i64 j)) = h0.put b (.cells (mc (kd k)).toArray T.api_Moniker (0, 0)) := by rw [e]; exact kdM kk hb
end Go.Den.Mon
end

section
set_option linter.unusedVariables false
set_option maxRecDepth 100000
namespace Go.Den.Mon
open Go Go.Den
variable {h : Hp} {K : Value → Hp → Prop}
section
variable {b0 : Nat} {l0 : List UInt8} {L : List Raw} {a : Option Addr} {c : Nat} {o : List Nat} {hh h' : Hp}
theorem PS.push (w : PS h b0 l0 L a c o hh) {x : Raw} (k : x.Ok) (hp : x.sn = 0 ∧ x.sa = none ∧ x.sc = 0 ∧ 1 ≤ x.kind ∧ x.kind ≤ 4) {a' : Option Addr} {c' : Nat} {o' : List Nat} (s : SlAt h' T.api_Moniker 20 AnyV a' (L ++ [x]).length c' (mcs (L ++ [x])) o') (st : Step o hh o' h') : PS h b0 l0 (L ++ [x]) a' c' o' h' := by
  refine ⟨s, by rw [st.keep b0 (by rw [w.z]; simp) w.nb]; exact w.z, fun q => ?_, w.f0, w.st.trans (st.frame [b0]), fun r hr => ?_, fun r hr => ?_⟩
  · rcases st.own b0 q with z | z
    · exact w.nb z
    · rw [w.z] at z; cases z
  · rcases List.mem_append.1 hr with z | z
    · exact w.ok r z
    · simp at z; rw [z]; exact k
  · rcases List.mem_append.1 hr with z | z
    · exact w.pl r z
    · simp at z; rw [z]; exact hp
/-- A refusal, behind the row's moniker. -/
theorem PS.exit (w : PS h b0 l0 L a c o hh) (hx : ∀ h', Step [] h [] h' → K (.tuple #[.agg (mc nl).toArray, .int .i64 18]) h') {y : Raw} (k : y.Ok) {cnd : Bool} {B : Nat → Prop} (e : cnd = true) : ∀ b : Nat, hh b = none → ((mc y).toArray.size = 20) ∧ (∀ v : Value, (v ∈ (Array.toList (mc y).toArray : List Value) → (Den.cellish v) = Bool.true)) ∧ (Free (hh.put b (.cells zMon T.api_Moniker (0, 0))) ⟨b, 0, none⟩ 20) ∧ bcase cnd (moniker_Parse.k0 hh b (mc y).toArray b0 K) (B b) :=
  fun b hb => ⟨by simpa using mc_len k, mc_cellish, freeM, bcT e (fail0 k hb w.z w.f0 w.toH hx)⟩
theorem PS.exit24 (w : PS h b0 l0 L a c o hh) (hx : ∀ h', Step [] h [] h' → K (.tuple #[.agg (mc nl).toArray, .int .i64 18]) h') {y : Raw} (k : y.Ok) : moniker_Parse.k24 hh (mc y).toArray b0 K := by
  unfold moniker_Parse.k24
  intro b hb
  have := fail0 k hb w.z w.f0 w.toH hx
  unfold moniker_Parse.k0 at this
  exact ⟨by simpa using mc_len k, mc_cellish, freeM, this⟩
end
open Classical in
set_option maxHeartbeats 1000000 in
theorem rdBody (en : Env h) {b0 : Nat} {l0 : List UInt8} {L : List Raw} {a : Option Addr} {c : Nat} {o : List Nat} {h0 : Hp} {ch : UInt8} {r : List UInt8} {I0 : List Value → Hp → Prop} {x0 : List Value → Hp → Nat} (w : PS h b0 l0 L a c o h0) (hl : r.length < 100000) (ln : L.length ≤ 64)
    (no : rd (ch :: r) = none → ∀ h', Step [] h [] h' → K (.tuple #[.agg (mc nl).toArray, .int .i64 18]) h')
    (yes : ∀ x rest, rd (ch :: r) = some (x, rest) → rest.length ≤ r.length → ∀ a' c' o' h', PS h b0 l0 (L ++ [x]) a' c' o' h' → I0 [.bool true, .string (str rest), .slice a' (L ++ [x]).length c'] h' ∧ x0 [.bool true, .string (str rest), .slice a' (L ++ [x]).length c'] h' < x0 [.bool true, .string (str (ch :: r)), .slice a L.length c] h0) :
    moniker_Parse.k53 (str (ch :: r)) h0 a L.length c b0 K I0 x0 true := by
  unfold moniker_Parse.k53
  refine ⟨by omega, ch, str_get rfl, sIndex_spec ⟨_, rfl, ?_⟩⟩
  rw [toU8, idx_kind]
  unfold moniker_Parse.k52
  have sz1 : ((1 : Int) ≤ ((str (ch :: r)).size : Int)) := by rw [str_size, List.length_cons]; omega
  have pos0 : decide ((0 : Int) ≤ ((str r).size : Int)) = true := decide_eq_true (by omega)
  refine ⟨trivial, fun b3 hb3 => ⟨rfl, by simp [cellish], freeM, by omega, sz1, ?_⟩⟩
  have f3 := w.free hb3
  have n03 : b0 ≠ b3 := fun e => by rw [← e, w.z] at hb3; cases hb3
  have n3o : ∀ q ∈ o, q ≠ b3 := fun q hq e => w.sl.mem q hq (by rw [e]; exact hb3)
  have own3 : ∀ {own : List Nat}, own = [b3] → b0 ∉ own ∧ (∀ q ∈ o, q ∉ own) ∧ ∀ q ∈ own, h q = none := fun {own} e => by
    subst e
    exact ⟨by simpa using n03, fun q hq => by simpa using n3o q hq, fun q hq => by simp at hq; rw [hq]; exact f3⟩
  obtain ⟨p1, p2, p3⟩ := own3 rfl
  -- the last step of each: the part is laid behind the others
  have push : ∀ {hX : Hp} {x : Raw} {rest : List UInt8} {B : Value → Hp → Prop}, PS h b0 l0 L a c o hX → MB hX b3 x → x.Ok → (x.sn = 0 ∧ x.sa = none ∧ x.sc = 0 ∧ 1 ≤ x.kind ∧ x.kind ≤ 4) →
      (∀ a' c' o' h', PS h b0 l0 (L ++ [x]) a' c' o' h' → B (.slice a' (L ++ [x]).length c') h') →
      ∃ cs7 : Array Value, (CellsAt hX ⟨b3, 0, none⟩ 20 cs7) ∧ ((cs7.size = 20) ∧ (∀ v : Value, (v ∈ (Array.toList cs7 : List Value) → (Den.cellish v) = Bool.true)) ∧ True) ∧ (∀ b7 : Nat, (hX b7 = none → wpSem P (Builtin.append_ #[T.sl_api_Moniker, T.sl_api_Moniker] T.sl_api_Moniker #[.slice a L.length c, .slice (some ⟨b7, 0, none⟩) 1 1]) B (hX.put b7 (.cells (Array.mk (catA cs7 [])) T.api_Moniker (0, 0))))) := fun {hX x rest B} wX M k hp hB =>
    ⟨_, M.all k, ⟨by simpa using mc_len k, mc_cellish, trivial⟩, fun b7 hb7 => monPush k wX.sl hb7 (by omega) fun a' c' o' h' s' st' => hB a' c' o' h' (wX.push k hp s' st')⟩
  by_cases c33 : ch = 33
  · rw [if_pos c33]
    have kk : (kd 1).Ok := kd_ok (by omega) (by omega)
    have kM := kdW (j := 1 + 0) (k := 1) (by decide +kernel) kk hb3
    have er : rd (ch :: r) = (rdItem r).map fun q => ({ kd 1 with txt := str q.1 }, q.2) := by rw [rd, if_pos c33]
    rw [kM]
    have w1 : PS h b0 l0 L a c o (h0.put b3 (.cells (mc (kd 1)).toArray T.api_Moniker (0, 0))) := w.step (Step.put (.inr hb3))
    have M1 : MB (h0.put b3 (.cells (mc (kd 1)).toArray T.api_Moniker (0, 0))) b3 (kd 1) := put_self
    refine ⟨1, by rw [Addr.add_mk]; exact M1.kind, bcT rfl ?_⟩
    unfold moniker_Parse.k15
    rw [cut1, kM]
    generalize h0.put b3 (.cells (mc (kd 1)).toArray T.api_Moniker (0, 0)) = H1 at w1 M1 ⊢
    have sc : ∀ {h2 : Hp} {s : ByteArray}, Step [] H1 [] h2 → MB h2 b3 (kd 1) ∧ PS h b0 l0 L a c o (h2.setCell ⟨b3, 17, none⟩ (.string s)) ∧ MB (h2.setCell ⟨b3, 17, none⟩ (.string s)) b3 { kd 1 with txt := s } := fun {h2 s} s2 => by
      have M2 := M1.step s2
      exact ⟨M2, (w1.step s2).wr (own := [b3]) (Step.setCell M2 (by simp)) p1 p2 p3, M2.setT kk⟩
    refine item_spec (by omega) (fun t rest e h2 s2 => ⟨_, _, _, rfl, ?_⟩) fun e h2 s2 => ⟨_, _, _, rfl, ?_⟩
    · obtain ⟨M2, w3, M3⟩ := sc (s := str t) s2
      have lt := rdItem_len e
      have pr : decide ((0 : Int) ≤ ((str rest).size : Int)) = true := decide_eq_true (by omega)
      unfold moniker_Parse.k14
      rw [Addr.add_mk, Nat.zero_add]
      refine ⟨⟨_, M2.txt kk⟩, frozen_of M2, bcF rfl ?_⟩
      unfold moniker_Parse.k13
      rw [pr]
      refine bcF rfl ?_
      unfold moniker_Parse.k12
      rw [pr]
      refine bcF rfl ?_
      unfold moniker_Parse.k11
      rw [Addr.add_mk, Nat.zero_add]
      refine ⟨by omega, by omega, push (rest := rest) w3 M3 ⟨z16_is, kk.H, kk.kind, by show (str t).size ≤ _; rw [str_size]; omega⟩ ⟨rfl, rfl, rfl, by show (1 : Int) ≤ 1 ∧ (1 : Int) ≤ 4; omega⟩ fun a' c' o' h' w' => ⟨_, _, _, rfl, ?_⟩⟩
      unfold moniker_Parse.k10
      rw [pr, cut0]
      exact yes _ rest (by rw [er, e]; rfl) (by omega) a' c' o' h' w'
    · obtain ⟨M2, w3, M3⟩ := sc (s := (⟨#[]⟩ : ByteArray)) s2
      have hx := no (by rw [er, e]; rfl)
      unfold moniker_Parse.k14
      rw [Addr.add_mk, Nat.zero_add]
      refine ⟨⟨_, M2.txt kk⟩, frozen_of M2, bcT rfl ?_⟩
      unfold moniker_Parse.k7
      rw [Addr.add_mk, Nat.zero_add]
      refine w3.of fun y n h3 ky w4 => ⟨_, _, rfl, ?_⟩
      unfold moniker_Parse.k6
      exact w4.exit hx ky rfl
  rw [if_neg c33]
  by_cases c58 : ch = 58
  · rw [if_pos c58]
    have kk : (kd 2).Ok := kd_ok (by omega) (by omega)
    have kM := kdW (j := 1 + 1) (k := 2) (by decide +kernel) kk hb3
    have er : rd (ch :: r) = if 38 ≤ r.length ∧ acc (r.take 38) (Lib.toLowerD (r.take 38)) ∧ prL (part (r.take 38) 16) = r.take 38 then some ({ kd 2 with id := part (r.take 38) 16 }, r.drop 38) else none := by
      rw [rd, if_neg c33, if_pos c58]
    rw [kM]
    have w1 : PS h b0 l0 L a c o (h0.put b3 (.cells (mc (kd 2)).toArray T.api_Moniker (0, 0))) := w.step (Step.put (.inr hb3))
    have M1 : MB (h0.put b3 (.cells (mc (kd 2)).toArray T.api_Moniker (0, 0))) b3 (kd 2) := put_self
    refine ⟨2, by rw [Addr.add_mk]; exact M1.kind, bcF rfl ?_⟩
    unfold moniker_Parse.k51
    refine bcT rfl ?_
    unfold moniker_Parse.k28
    rw [cut1]
    refine bcase_intro (fun q => ?_) fun q => ?_
    · have q : ¬ 38 ≤ r.length := by rw [str_size] at q; simp at q; omega
      have hx := no (by rw [er, if_neg fun z => q z.1])
      unfold moniker_Parse.k17
      rw [kM]
      refine w1.of fun y n h3 ky w4 => ⟨_, _, rfl, ?_⟩
      unfold moniker_Parse.k16
      rw [cut1]
      exact w4.exit hx ky (by rw [str_size, decide_eq_false (by omega)]; rfl)
    have q : 38 ≤ r.length := by rw [str_size] at q; simp at q; omega
    have z38 : (38 : Int) ≤ ((str r).size : Int) := by rw [str_size]; omega
    unfold moniker_Parse.k27
    rw [cut1, cutT, kM]
    refine ⟨by omega, z38, ?_⟩
    rw [show (38 : Int).toNat = 38 from rfl]
    generalize h0.put b3 (.cells (mc (kd 2)).toArray T.api_Moniker (0, 0)) = H1 at w1 M1 ⊢
    have low : (str (r.take 38)).data.toList.length = 38 → Low (str (r.take 38)) (Lib.toLowerD (r.take 38)) H1 := fun _ h1 C s1 hC => by
      have := lower_any (s := str (r.take 38)) (K := C) (by rw [str_size, List.length_take]; omega) ((en.step w1.toH).tabs.step s1) (by rw [str_l]; exact hC)
      exact this
    -- what both ends of the call share
    have mid : ∀ (g : List Nat) (n8 : Int) (h8 : Hp), isG g → Step [] H1 [] h8 → (n8 = 0 → acc (r.take 38) (Lib.toLowerD (r.take 38)) ∧ g = part (r.take 38) 16) → (n8 ≠ 0 → ¬ acc (r.take 38) (Lib.toLowerD (r.take 38))) → moniker_Parse.k26 h8 (gcs g) b3 n8 (str (ch :: r)) a L.length c b0 K I0 x0 true h0 := fun g n8 h8 hg s8 good bad => by
      unfold moniker_Parse.k26
      intro b9 hb9
      have M8 := M1.step s8
      have w8 := w1.step s8
      have n93 : b9 ≠ b3 := fun e => by rw [e, M8] at hb9; cases hb9
      have n9 : b0 ≠ b9 := fun e => by rw [← e, w8.z] at hb9; cases hb9
      have eY : (h8.put b9 (.cells zGuid T.api_Guid (0, 0))).setCells ⟨b9, 0, none⟩ (gcs g) = h8.put b9 (.cells (gcs g) T.api_Guid (0, 0)) := by
        rw [setCells_blk (z := zGuid) put_self (by rw [gcs_size, hg.1]; rfl), put_put]
      have sY : Step [] h8 [] (h8.put b9 (.cells (gcs g) T.api_Guid (0, 0))) := Step.put (.inr hb9)
      have MY := M8.step sY
      have wY := w8.step sY
      rw [eY]
      obtain ⟨eX, fX⟩ := MY.setId kk hg.1
      have MX : MB ((h8.put b9 (.cells (gcs g) T.api_Guid (0, 0))).put b3 (.cells (mc { kd 2 with id := g }).toArray T.api_Moniker (0, 0))) b3 { kd 2 with id := g } := put_self
      have wX : PS h b0 l0 L a c o ((h8.put b9 (.cells (gcs g) T.api_Guid (0, 0))).put b3 (.cells (mc { kd 2 with id := g }).toArray T.api_Moniker (0, 0))) := wY.wr (own := [b3]) (Step.put (.inl (by simp))) p1 p2 p3
      have c9 : CellsAt ((h8.put b9 (.cells (gcs g) T.api_Guid (0, 0))).put b3 (.cells (mc { kd 2 with id := g }).toArray T.api_Moniker (0, 0))) ⟨b9, 0, none⟩ 16 (gcs g) := cellsAt_blk (T := T.api_Guid) (f := (0, 0)) (by rw [put_ne n93, put_self]) (by rw [gcs_size, hg.1])
      have kg : ({ kd 2 with id := g } : Raw).Ok := ⟨hg, kk.H, kk.kind, kk.txt⟩
      refine ⟨by rw [gcs_size, hg.1], gcs_cellish, free_blk put_self rfl, gcs g, cellsAt_blk put_self (by rw [gcs_size, hg.1]), by rw [gcs_size, hg.1], gcs_cellish, by rw [Addr.add_mk]; exact fX, bcase_intro (fun q0 => ?_) fun q0 => ?_⟩
      · have q0 : n8 = 0 := by simpa using q0
        obtain ⟨g1, g2⟩ := good q0
        unfold moniker_Parse.k23
        rw [eY, Addr.add_mk, Nat.zero_add, eX]
        refine ⟨_, c9, gPrint_spec hg fun h9 s9 => ⟨_, rfl, ?_⟩⟩
        have M9 := MX.step s9
        have w9 := wX.step s9
        obtain ⟨pg, hpg⟩ : ∃ pg, pg = prL g := ⟨_, rfl⟩
        have cmp : (ByteArray.toList (prS g) == ByteArray.toList (str (r.take 38))) = decide (pg = r.take 38) := by
          rw [toList_str, ByteArray.toList_eq, prS_list, beq_dec, hpg]
        unfold moniker_Parse.k22
        rw [cut1, cutT, show (38 : Int).toNat = 38 from rfl, cmp]
        refine ⟨by omega, z38, bcase_intro (fun q1 => ?_) fun q1 => ?_⟩
        · have q1' : ¬ pg = r.take 38 := by simpa using q1
          have hx := no (by rw [er, if_neg fun z => q1' (by rw [hpg, g2]; exact z.2.2)])
          unfold moniker_Parse.k19
          refine w9.of fun y n h3 ky w4 => ⟨_, _, rfl, ?_⟩
          unfold moniker_Parse.k18
          rw [cut1, cutT, show (38 : Int).toNat = 38 from rfl, cmp]
          exact w4.exit hx ky q1
        · have q1' : pg = r.take 38 := by simpa using q1
          unfold moniker_Parse.k21
          rw [cut1]
          refine ⟨by omega, z38, push (rest := r.drop 38) w9 M9 kg ⟨rfl, rfl, rfl, by show (1 : Int) ≤ 2 ∧ (2 : Int) ≤ 4; omega⟩ fun a' c' o' h' w' => ⟨_, _, _, rfl, ?_⟩⟩
          unfold moniker_Parse.k20
          rw [cut1, cutT, cutD, show (38 : Int).toNat = 38 from rfl, cmp, decide_eq_true q1']
          exact yes _ _ (by rw [er, if_pos ⟨q, g1, by rw [← g2, ← hpg]; exact q1'⟩, g2]) (by rw [List.length_drop]; omega) a' c' o' h' w'
      · have q0 : n8 ≠ 0 := by simpa using q0
        have hx := no (by rw [er, if_neg fun z => bad q0 z.2.1])
        unfold moniker_Parse.k25
        rw [eY, Addr.add_mk, Nat.zero_add, eX]
        exact wX.of fun y n h3 ky w4 => ⟨_, _, rfl, w4.exit24 hx ky⟩
    refine gParse_spec low (fun ac h8 s8 => ⟨_, _, rfl, ?_⟩) fun nac h8 s8 => ⟨_, _, rfl, ?_⟩
    · rw [str_l] at ac ⊢
      exact mid _ 0 h8 (part_is _ _) s8 (fun _ => ⟨ac, rfl⟩) (fun z => absurd rfl z)
    · rw [str_l] at nac
      rw [← gcs_z16]
      exact mid _ 5 h8 z16_is s8 (fun z => by omega) (fun _ => nac)
  rw [if_neg c58]
  by_cases c64 : ch = 64
  · rw [if_pos c64]
    have kk : (kd 3).Ok := kd_ok (by omega) (by omega)
    have kM := kdW (j := 1 + 2) (k := 3) (by decide +kernel) kk hb3
    have er : rd (ch :: r) = if 16 ≤ r.length ∧ uok (r.take 16) ∧ Lib.toLowerA (r.take 16) = r.take 16 then some ({ kd 3 with H := uv (r.take 16) }, r.drop 16) else none := by
      rw [rd, if_neg c33, if_neg c58, if_pos c64]
    rw [kM]
    have w1 : PS h b0 l0 L a c o (h0.put b3 (.cells (mc (kd 3)).toArray T.api_Moniker (0, 0))) := w.step (Step.put (.inr hb3))
    have M1 : MB (h0.put b3 (.cells (mc (kd 3)).toArray T.api_Moniker (0, 0))) b3 (kd 3) := put_self
    refine ⟨3, by rw [Addr.add_mk]; exact M1.kind, bcF rfl ?_⟩
    unfold moniker_Parse.k51
    refine bcF rfl ?_
    unfold moniker_Parse.k50
    refine bcT rfl ?_
    unfold moniker_Parse.k41
    rw [cut1]
    refine bcase_intro (fun q => ?_) fun q => ?_
    · have q : ¬ 16 ≤ r.length := by rw [str_size] at q; simp at q; omega
      have hx := no (by rw [er, if_neg fun z => q z.1])
      unfold moniker_Parse.k30
      rw [kM]
      refine w1.of fun y n h3 ky w4 => ⟨_, _, rfl, ?_⟩
      unfold moniker_Parse.k29
      rw [cut1]
      exact w4.exit hx ky (by rw [str_size, decide_eq_false (by omega)]; rfl)
    have q : 16 ≤ r.length := by rw [str_size] at q; simp at q; omega
    have z16' : (16 : Int) ≤ ((str r).size : Int) := by rw [str_size]; omega
    have l16 : (r.take 16).length = 16 := by rw [List.length_take]; omega
    unfold moniker_Parse.k40
    rw [cut1, cutT, kM]
    refine ⟨by omega, z16', ?_⟩
    rw [show (16 : Int).toNat = 16 from rfl]
    generalize h0.put b3 (.cells (mc (kd 3)).toArray T.api_Moniker (0, 0)) = H1 at w1 M1 ⊢
    have sc : ∀ {h2 : Hp} {n : Nat}, Step [] H1 [] h2 → MB h2 b3 (kd 3) ∧ PS h b0 l0 L a c o (h2.setCell ⟨b3, 18, none⟩ (.int .u64 (n : Int))) ∧ MB (h2.setCell ⟨b3, 18, none⟩ (.int .u64 (n : Int))) b3 { kd 3 with H := n } := fun {h2 n} s2 => by
      have M2 := M1.step s2
      exact ⟨M2, (w1.step s2).wr (own := [b3]) (Step.setCell M2 (by simp)) p1 p2 p3, M2.setH kk⟩
    refine parse_spec (en.step w1.toH) (by rw [str_l]; exact l16) (fun ok h2 s2 => ⟨_, _, rfl, ?_⟩) fun nok t v h2 s2 => ⟨_, _, rfl, ?_⟩
    · rw [str_l] at ok ⊢
      obtain ⟨M2, w3, M3⟩ := sc (n := uv (r.take 16)) s2
      have uvl : uv (r.take 16) < 18446744073709551616 := by have := uv_lt (l := r.take 16); rw [l16] at this; exact this
      unfold moniker_Parse.k39
      rw [Addr.add_mk, Nat.zero_add, cut1, cutT, show (16 : Int).toNat = 16 from rfl]
      refine ⟨⟨_, M2.H kk⟩, frozen_of M2, .inl ⟨rfl, by omega, z16', ?_⟩⟩
      refine lower_ascii (by rw [str_size]; omega) (fun b hb => hv_128 (ok b (by rw [str_l] at hb; exact hb))) fun h4 s4 => ⟨_, rfl, ?_⟩
      rw [str_l]
      have M4 := M3.step s4
      have w4 := w3.step s4
      have cmp : (ByteArray.toList (⟨(Lib.toLowerA (r.take 16)).toArray⟩ : ByteArray) == ByteArray.toList (str (r.take 16))) = decide (Lib.toLowerA (r.take 16) = r.take 16) := by
        rw [show (⟨(Lib.toLowerA (r.take 16)).toArray⟩ : ByteArray) = str (Lib.toLowerA (r.take 16)) from rfl, toList_str, toList_str, beq_dec]
      unfold moniker_Parse.k38
      rw [cut1, cutT, show (16 : Int).toNat = 16 from rfl, cmp]
      refine ⟨by omega, z16', bcase_intro (fun q1 => ?_) fun q1 => ?_⟩
      · have q1 := of_decide_eq_true q1
        unfold moniker_Parse.k36
        rw [cut1, cutT, show (16 : Int).toNat = 16 from rfl]
        refine ⟨by omega, z16', contains95 l16 ok ⟨_, rfl, ?_⟩⟩
        unfold moniker_Parse.k35
        refine bcF rfl ?_
        unfold moniker_Parse.k34
        rw [cut1]
        refine ⟨by omega, z16', push (rest := r.drop 16) w4 M4 ⟨z16_is, uvl, kk.kind, kk.txt⟩ ⟨rfl, rfl, rfl, by show (1 : Int) ≤ 3 ∧ (3 : Int) ≤ 4; omega⟩ fun a' c' o' h' w' => ⟨_, _, _, rfl, ?_⟩⟩
        unfold moniker_Parse.k33
        rw [cut1, cutD, show (16 : Int).toNat = 16 from rfl]
        exact yes _ _ (by rw [er, if_pos ⟨q, ok, q1⟩]) (by rw [List.length_drop]; omega) a' c' o' h' w'
      · have q1 := of_decide_eq_false q1
        have hx := no (by rw [er, if_neg fun z => q1 z.2.2])
        unfold moniker_Parse.k37
        exact w4.of fun y n h3 ky w5 => ⟨_, _, rfl, w5.exit24 hx ky⟩
    · rw [str_l] at nok
      obtain ⟨M2, w3, M3⟩ := sc (n := 0) s2
      have hx := no (by rw [er, if_neg fun z => nok z.2.1])
      unfold moniker_Parse.k39
      rw [Addr.add_mk, Nat.zero_add]
      refine ⟨⟨_, M2.H kk⟩, frozen_of M2, .inr ⟨_, _, rfl, ?_⟩⟩
      exact w3.of fun y n h3 ky w5 => ⟨_, _, rfl, w5.exit24 hx ky⟩
  rw [if_neg c64]
  by_cases c46 : ch = 46
  · rw [if_pos c46]
    have kk : (kd 4).Ok := kd_ok (by omega) (by omega)
    have kM := kdW (j := 1 + 3) (k := 4) (by decide +kernel) kk hb3
    have er : rd (ch :: r) = some (kd 4, r) := by rw [rd, if_neg c33, if_neg c58, if_neg c64, if_pos c46]
    rw [kM]
    have w1 : PS h b0 l0 L a c o (h0.put b3 (.cells (mc (kd 4)).toArray T.api_Moniker (0, 0))) := w.step (Step.put (.inr hb3))
    have M1 : MB (h0.put b3 (.cells (mc (kd 4)).toArray T.api_Moniker (0, 0))) b3 (kd 4) := put_self
    refine ⟨4, by rw [Addr.add_mk]; exact M1.kind, bcF rfl ?_⟩
    unfold moniker_Parse.k51
    refine bcF rfl ?_
    unfold moniker_Parse.k50
    refine bcF rfl ?_
    unfold moniker_Parse.k49
    refine bcT rfl ?_
    unfold moniker_Parse.k47
    rw [cut1, pos0]
    refine bcF rfl ?_
    unfold moniker_Parse.k46
    rw [cut1, pos0]
    refine bcF rfl ?_
    unfold moniker_Parse.k45
    rw [cut1, kM]
    refine ⟨by omega, by omega, push (rest := r) w1 M1 kk ⟨rfl, rfl, rfl, by show (1 : Int) ≤ 4 ∧ (4 : Int) ≤ 4; omega⟩ fun a' c' o' h' w' => ⟨_, _, _, rfl, ?_⟩⟩
    unfold moniker_Parse.k44
    rw [cut1, cut0, pos0]
    exact yes _ _ er (Nat.le_refl _) a' c' o' h' w'
  · rw [if_neg c46]
    have kk : (kd 0).Ok := kd_ok (by omega) (by omega)
    have kM := kdW (j := 1 + -1) (k := 0) (by decide +kernel) kk hb3
    have hx := no (by rw [rd, if_neg c33, if_neg c58, if_neg c64, if_neg c46])
    rw [kM]
    have w1 : PS h b0 l0 L a c o (h0.put b3 (.cells (mc (kd 0)).toArray T.api_Moniker (0, 0))) := w.step (Step.put (.inr hb3))
    have M1 : MB (h0.put b3 (.cells (mc (kd 0)).toArray T.api_Moniker (0, 0))) b3 (kd 0) := put_self
    refine ⟨0, by rw [Addr.add_mk]; exact M1.kind, bcF rfl ?_⟩
    unfold moniker_Parse.k51
    refine bcF rfl ?_
    unfold moniker_Parse.k50
    refine bcF rfl ?_
    unfold moniker_Parse.k49
    refine bcF rfl ?_
    unfold moniker_Parse.k48
    rw [kM]
    exact w1.of fun y n h3 ky w5 => ⟨_, _, rfl, w5.exit24 hx ky⟩
end Go.Den.Mon
end

section
set_option linter.unusedVariables false
set_option maxRecDepth 100000
namespace Go.Den.Mon
open Go Go.Den
/-! ### Items -/
/-- An end of an item: nothing more, or a sign. -/
def stopAt (r : List UInt8) : Prop := r = [] ∨ ∃ d r', r = d :: r' ∧ sgn d = true
theorem spc_ns {c : UInt8} (h : spc c = false) : sgn c = false ∧ c ≠ 92 := by
  refine ⟨by unfold sgn; rw [h]; rfl, ?_⟩
  rintro rfl
  revert h
  decide +kernel
theorem sgn_spc {c : UInt8} (h : sgn c = true) : spc c = true := by unfold sgn at h; rw [Bool.and_eq_true] at h; exact h.1
theorem spc_or {c : UInt8} (h : spc c = true) (h2 : c ≠ 92) : sgn c = true := by
  unfold sgn
  rw [h, show (c.toNat == 92) = false by rw [beq_eq_false_iff_ne]; exact fun q => h2 (by rw [← toU8 c, q]; rfl)]
  rfl
theorem rdItem_esc {r : List UInt8} (hr : stopAt r) : ∀ t : List UInt8, rdItem (esc t ++ r) = some (t, r)
  | [] => by
    rcases hr with rfl | ⟨d, r', rfl, hd⟩
    · rfl
    · show rdItem (d :: r') = _
      rw [rdItem_c, if_pos hd]
  | c :: t => by
    have e : esc (c :: t) ++ r = e1 c ++ (esc t ++ r) := by simp [esc, List.append_assoc]
    rw [e]
    unfold e1
    split
    · rename_i hs
      show rdItem (92 :: c :: (esc t ++ r)) = _
      rw [rdItem_c, if_neg (by rw [sgn92]; simp), if_pos rfl]
      simp only [hs, if_true]
      rw [rdItem_esc hr t]; rfl
    · rename_i hs
      obtain ⟨h1, h2⟩ := spc_ns (by simpa using hs)
      show rdItem (c :: (esc t ++ r)) = _
      rw [rdItem_c, if_neg (by rw [h1]; simp), if_neg h2, rdItem_esc hr t]; rfl
theorem rdItem_sound : ∀ {l t r : List UInt8}, rdItem l = some (t, r) → l = esc t ++ r
  | [], t, r, e => by rw [rdItem] at e; cases e; rfl
  | c :: l, t, r, e => by
    rw [rdItem_c] at e
    split at e
    · cases e; rfl
    · rename_i hs
      split at e
      · rename_i h92
        subst h92
        cases l with
        | nil => cases e
        | cons d l =>
          simp only at e
          split at e
          · rename_i hd
            obtain ⟨⟨t', r'⟩, e1', e2⟩ := Option.map_eq_some_iff.1 e
            cases e2
            rw [rdItem_sound e1']
            simp [esc, e1, hd]
          · cases e
      · rename_i h92
        obtain ⟨⟨t', r'⟩, e1', e2⟩ := Option.map_eq_some_iff.1 e
        cases e2
        rw [rdItem_sound e1']
        have hn : spc c = false := by
          cases hc : spc c with
          | false => rfl
          | true => exact absurd (spc_or hc h92) hs
        simp [esc, e1, hn]
/-! ### Numbers -/
theorem hf_snoc {n : Nat} : ∀ {k : Nat}, hf n (k + 1) = hf (n / 16) k ++ [hexc (n % 16)]
  | 0 => by simp [hf]
  | k + 1 => by
    have ih := hf_snoc (n := n) (k := k)
    rw [hf, ih, hf]
    simp only [List.cons_append]
    rw [Nat.div_div_eq_div_mul, Nat.pow_succ, Nat.mul_comm 16]
theorem uv_hf : ∀ {k n : Nat}, n < 16 ^ k → uv (hf n k) = n
  | 0, n, h => by simp at h; subst h; rfl
  | k + 1, n, h => by
    rw [hf_snoc, uv_snoc, uv_hf (by rw [Nat.pow_succ] at h; omega), hv_hexc (Nat.mod_lt _ (by omega))]
    simp; omega
theorem hexQ : ((List.range 16).all fun d => decide (0 ≤ hv (hexc d).toNat) && (Lib.lowerB (hexc d) == hexc d)) = true := by decide +kernel
theorem hexQ' {d : Nat} (hd : d < 16) : 0 ≤ hv (hexc d).toNat ∧ Lib.lowerB (hexc d) = hexc d := by
  have := List.all_eq_true.1 hexQ d (List.mem_range.2 hd)
  rw [Bool.and_eq_true, decide_eq_true_iff, beq_iff_eq] at this
  exact this
theorem hf_mem {n : Nat} : ∀ {k : Nat}, ∀ c ∈ hf n k, ∃ d, d < 16 ∧ c = hexc d
  | 0, c, hc => by simp [hf] at hc
  | k + 1, c, hc => by
    rw [hf] at hc
    rcases List.mem_cons.1 hc with rfl | hc
    · exact ⟨_, Nat.mod_lt _ (by omega), rfl⟩
    · exact hf_mem c hc
theorem uok_hf {n k : Nat} : uok (hf n k) := fun c hc => by
  obtain ⟨d, hd, rfl⟩ := hf_mem c hc
  exact (hexQ' hd).1
theorem low_hf {n k : Nat} : Lib.toLowerA (hf n k) = hf n k := by
  unfold Lib.toLowerA
  refine (List.map_congr_left fun c hc => ?_).trans (List.map_id _)
  obtain ⟨d, hd, rfl⟩ := hf_mem c hc
  exact (hexQ' hd).2
theorem hexR : ((List.range 256).all fun n => !(decide (0 ≤ hv n)) || !(Lib.lowerB n.toUInt8 == n.toUInt8) || (hexc (hv n).toNat == n.toUInt8)) = true := by decide +kernel
theorem hexR' {c : UInt8} (h1 : 0 ≤ hv c.toNat) (h2 : Lib.lowerB c = c) : hexc (hv c.toNat).toNat = c := by
  have := List.all_eq_true.1 hexR c.toNat (List.mem_range.2 (UInt8.toNat_lt c))
  rw [toU8] at this
  simpa [h1, h2] using this
theorem hf_uv : ∀ {k : Nat} {l : List UInt8}, l.length = k → uok l → Lib.toLowerA l = l → hf (uv l) k = l
  | 0, l, hl, _, _ => by rw [List.length_eq_zero_iff.1 hl]; rfl
  | k + 1, l, hl, ok, lw => by
    obtain ⟨l', c, rfl⟩ : ∃ l' c, l = l' ++ [c] := ⟨l.dropLast, l.getLast (List.ne_nil_of_length_pos (by omega)), (List.dropLast_concat_getLast _).symm⟩
    have hl' : l'.length = k := by simp at hl; exact hl
    have lw' : Lib.toLowerA l' = l' ∧ Lib.lowerB c = c := by
      unfold Lib.toLowerA at lw ⊢
      rw [List.map_append] at lw
      have := List.append_inj lw (by simp)
      exact ⟨this.1, by simpa using this.2⟩
    have ok' : uok l' := fun x hx => ok x (by simp [hx])
    have okc := ok c (by simp)
    have lt := hv_lt c.toNat
    rw [hf_snoc, uv_snoc, show (uv l' * 16 + (hv c.toNat).toNat) / 16 = uv l' by omega, show (uv l' * 16 + (hv c.toNat).toNat) % 16 = (hv c.toNat).toNat by omega, hf_uv hl' ok' lw'.1, hexR' okc lw'.2]
/-! ### Parts -/
/-- As the reader makes it. -/
structure Cn (r : Raw) : Prop where
  ok : r.Ok
  sn : r.sn = 0
  sa : r.sa = none
  sc : r.sc = 0
  k : r.kind = 1 ∨ r.kind = 2 ∨ r.kind = 3 ∨ r.kind = 4
  i1 : r.kind ≠ 2 → r.id = z16
  h1 : r.kind ≠ 3 → r.H = 0
  t1 : r.kind ≠ 1 → r.txt = ⟨#[]⟩
theorem Cn.of {r : Raw} (ok : r.Ok) (rp : rpart r = true) (sa : r.sa = none) (sc : r.sc = 0) : Cn r := by
  have sz : ∀ {b : ByteArray}, b.size = 0 → b = ⟨#[]⟩ := fun {b} e => by
    rw [← str_self (s := b), show b.data.toList = [] from List.length_eq_zero_iff.1 (by rw [← Lib.size_eq]; exact e)]; rfl
  unfold rpart at rp
  split at rp
  · rename_i q
    have d := of_decide_eq_true rp
    exact ⟨ok, d.2.2.1, sa, sc, .inl q, fun _ => d.1, fun _ => d.2.1, fun z => absurd q z⟩
  · split at rp
    · rename_i q
      have d := of_decide_eq_true rp
      exact ⟨ok, d.2.2, sa, sc, .inr (.inl q), fun z => absurd q z, fun _ => d.2.1, fun _ => sz d.1⟩
    · split at rp
      · rename_i q
        have d := of_decide_eq_true rp
        exact ⟨ok, d.2.2, sa, sc, .inr (.inr (.inl q)), fun _ => d.2.1, fun z => absurd q z, fun _ => sz d.1⟩
      · split at rp
        · rename_i q
          have d := of_decide_eq_true rp
          exact ⟨ok, d.2.2.2, sa, sc, .inr (.inr (.inr q)), fun _ => d.2.1, fun _ => d.2.2.1, fun _ => sz d.1⟩
        · cases rp
theorem prL_take {g r : List UInt8} (hg : g.length = 38) : (g ++ r).take 38 = g ∧ (g ++ r).drop 38 = r := by
  rw [← hg]; exact ⟨List.take_left' rfl, List.drop_left' rfl⟩
open Classical in
theorem rd_txt1 {x : Raw} (cx : Cn x) {r : List UInt8} (hr : stopAt r) : rd (txt1 x ++ r) = some (x, r) := by
  obtain ⟨kind, id, txt, H, sa, sn, sc⟩ := x
  obtain ⟨ok, c1, c2, c3, ck, i1, h1, t1⟩ := cx
  simp only at c1 c2 c3 ck i1 h1 t1
  subst c1 c2 c3
  rcases ck with q | q | q | q
  · subst q
    obtain rfl := i1 (by omega)
    obtain rfl := h1 (by omega)
    have et : txt1 ⟨1, z16, txt, 0, none, 0, 0⟩ ++ r = 33 :: (esc txt.data.toList ++ r) := by unfold txt1; rw [if_pos rfl]; rfl
    rw [et, rd, if_pos rfl, rdItem_esc hr]
    show some (({ kd 1 with txt := str txt.data.toList } : Raw), r) = _
    rw [str_self]; rfl
  · subst q
    obtain rfl := h1 (by omega)
    obtain rfl := t1 (by omega)
    have et : txt1 ⟨2, id, ⟨#[]⟩, 0, none, 0, 0⟩ ++ r = 58 :: (prL id ++ r) := by unfold txt1; rw [if_neg (by show ¬ (2 : Int) = 1; omega), if_pos rfl]; rfl
    have hg : isG id := ok.id
    obtain ⟨e1', e2⟩ := prL_take (g := prL id) (r := r) prL_38
    have ep : part (prL id) 16 = id := (acc_self hg).part hg
    rw [et, rd, if_neg (by decide), if_pos rfl, e1', e2, if_pos ⟨by rw [List.length_append, prL_38]; omega, Acc_acc hg (acc_self hg), by rw [ep]⟩, ep]
    rfl
  · subst q
    obtain rfl := i1 (by omega)
    obtain rfl := t1 (by omega)
    have et : txt1 ⟨3, z16, ⟨#[]⟩, H, none, 0, 0⟩ ++ r = 64 :: (hf H 16 ++ r) := by unfold txt1; rw [if_neg (by show ¬ (3 : Int) = 1; omega), if_neg (by show ¬ (3 : Int) = 2; omega), if_pos rfl]; rfl
    have t16 : (hf H 16 ++ r).take 16 = hf H 16 ∧ (hf H 16 ++ r).drop 16 = r := ⟨List.take_left' hf_len, List.drop_left' hf_len⟩
    have hH : H < 16 ^ 16 := ok.H
    rw [et, rd, if_neg (by decide), if_neg (by decide), if_pos rfl, t16.1, t16.2, if_pos ⟨by rw [List.length_append, hf_len]; omega, uok_hf, low_hf⟩, uv_hf hH]
    rfl
  · subst q
    obtain rfl := i1 (by omega)
    obtain rfl := h1 (by omega)
    obtain rfl := t1 (by omega)
    have et : txt1 ⟨4, z16, ⟨#[]⟩, 0, none, 0, 0⟩ ++ r = 46 :: r := by unfold txt1; rw [if_neg (by show ¬ (4 : Int) = 1; omega), if_neg (by show ¬ (4 : Int) = 2; omega), if_neg (by show ¬ (4 : Int) = 3; omega)]; rfl
    rw [et, rd, if_neg (by decide), if_neg (by decide), if_neg (by decide), if_pos rfl]
    rfl
open Classical in
theorem rd_sound {s r : List UInt8} {x : Raw} (hs : s.length < 100000) (e : rd s = some (x, r)) : s = txt1 x ++ r ∧ Cn x ∧ r.length < s.length := by
  cases s with
  | nil => cases e
  | cons c l =>
    rw [rd] at e
    split at e
    · rename_i q
      subst q
      obtain ⟨⟨t, r'⟩, e1', e2⟩ := Option.map_eq_some_iff.1 e
      cases e2
      have sn := rdItem_sound e1'
      have ln := rdItem_len e1'
      simp only [List.length_cons] at hs
      refine ⟨?_, ⟨⟨z16_is, by show (0 : Nat) < _; omega, by show _ ≤ (1 : Int) ∧ (1 : Int) < _; omega, by show (str t).size ≤ _; rw [str_size]; omega⟩, rfl, rfl, rfl, .inl rfl, fun _ => rfl, fun _ => rfl, fun z => absurd rfl z⟩, by simp; omega⟩
      unfold txt1
      rw [if_pos (show ({ kd 1 with txt := str t } : Raw).kind = 1 from rfl)]
      show 33 :: l = 33 :: (esc (str t).data.toList ++ r')
      rw [str_l, ← sn]
    · split at e
      · rename_i q
        subst q
        split at e
        · rename_i d
          cases e
          refine ⟨?_, ⟨⟨part_is _ _, by show (0 : Nat) < _; omega, by show _ ≤ (2 : Int) ∧ (2 : Int) < _; omega, by show (0 : Nat) ≤ _; omega⟩, rfl, rfl, rfl, .inr (.inl rfl), fun z => absurd rfl z, fun _ => rfl, fun _ => rfl⟩, by simp; omega⟩
          unfold txt1
          rw [if_neg (show ¬ ({ kd 2 with id := part (l.take 38) 16 } : Raw).kind = 1 from by show ¬ (2 : Int) = 1; omega), if_pos (show ({ kd 2 with id := part (l.take 38) 16 } : Raw).kind = 2 from rfl)]
          show 58 :: l = 58 :: (prL (part (l.take 38) 16) ++ l.drop 38)
          rw [d.2.2, List.take_append_drop]
        · cases e
      · split at e
        · rename_i q
          subst q
          split at e
          · rename_i d
            cases e
            have l16 : (l.take 16).length = 16 := by rw [List.length_take]; omega
            have uvl : uv (l.take 16) < 18446744073709551616 := by have := uv_lt (l := l.take 16); rw [l16] at this; exact this
            refine ⟨?_, ⟨⟨z16_is, uvl, by show _ ≤ (3 : Int) ∧ (3 : Int) < _; omega, by show (0 : Nat) ≤ _; omega⟩, rfl, rfl, rfl, .inr (.inr (.inl rfl)), fun _ => rfl, fun z => absurd rfl z, fun _ => rfl⟩, by simp; omega⟩
            unfold txt1
            rw [if_neg (show ¬ ({ kd 3 with H := uv (l.take 16) } : Raw).kind = 1 from by show ¬ (3 : Int) = 1; omega), if_neg (show ¬ ({ kd 3 with H := uv (l.take 16) } : Raw).kind = 2 from by show ¬ (3 : Int) = 2; omega), if_pos (show ({ kd 3 with H := uv (l.take 16) } : Raw).kind = 3 from rfl)]
            show 64 :: l = 64 :: (hf (uv (l.take 16)) 16 ++ l.drop 16)
            rw [hf_uv l16 d.2.1 d.2.2, List.take_append_drop]
          · cases e
        · split at e
          · rename_i q
            subst q
            cases e
            refine ⟨?_, ⟨kd_ok (by omega) (by omega), rfl, rfl, rfl, .inr (.inr (.inr rfl)), fun _ => rfl, fun _ => rfl, fun _ => rfl⟩, by simp⟩
            unfold txt1
            rw [if_neg (show ¬ (kd 4).kind = 1 from by show ¬ (4 : Int) = 1; omega), if_neg (show ¬ (kd 4).kind = 2 from by show ¬ (4 : Int) = 2; omega), if_neg (show ¬ (kd 4).kind = 3 from by show ¬ (4 : Int) = 3; omega)]
            rfl
          · cases e
end Go.Den.Mon
end

section
set_option linter.unusedVariables false
set_option maxRecDepth 100000
namespace Go.Den.Mon
open Go Go.Den
variable {h : Hp} {K : Value → Hp → Prop}
noncomputable def rdn : Nat → List UInt8 → Option (List Raw × List UInt8)
  | 0, s => some ([], s)
  | n + 1, s => (rdn n s).bind fun q => (rd q.2).map fun p => (q.1 ++ [p.1], p.2)
theorem Rd.rdn {s r : List UInt8} {L : List Raw} (w : Rd s L r) : rdn L.length s = some (L, r) := by
  induction w with
  | nil => rfl
  | @snoc L r r' x w e ih =>
    rw [List.length_append, List.length_singleton, Go.Den.Mon.rdn, ih]
    simp [e]
theorem rdn_stop {s r : List UInt8} {L : List Raw} {n : Nat} (e : rdn n s = some (L, r)) (hr : rd r = none) : ∀ k, rdn (n + 1 + k) s = none
  | 0 => by
    show rdn (n + 1) s = none
    rw [rdn, e]; simp [hr]
  | k + 1 => by
    show rdn (n + 1 + k + 1) s = none
    rw [rdn, rdn_stop e hr k]; rfl
theorem rd_nil : rd [] = none := by rw [rd]
theorem Rd.alike {s r : List UInt8} {L L2 : List Raw} (w : Rd s L r) (w2 : Rd s L2 []) (hr : rd r = none) : L2 = L ∧ r = [] := by
  have a := w.rdn
  have b := w2.rdn
  rcases Nat.lt_trichotomy L.length L2.length with q | q | q
  · have := rdn_stop a hr (L2.length - (L.length + 1))
    rw [show L.length + 1 + (L2.length - (L.length + 1)) = L2.length by omega, b] at this
    cases this
  · rw [q, b] at a; cases a; exact ⟨rfl, rfl⟩
  · have := rdn_stop b rd_nil (L.length - (L2.length + 1))
    rw [show L2.length + 1 + (L.length - (L2.length + 1)) = L.length by omega, a] at this
    cases this
theorem Rd.more {s r : List UInt8} {L L2 : List Raw} (w : Rd s L r) (w2 : Rd s L2 []) : L.length ≤ L2.length := by
  rcases Nat.lt_or_ge L2.length L.length with q | q
  · have := rdn_stop w2.rdn rd_nil (L.length - (L2.length + 1))
    rw [show L2.length + 1 + (L.length - (L2.length + 1)) = L.length by omega, w.rdn] at this
    cases this
  · exact q
theorem Rd.sound {s r : List UInt8} {L : List Raw} (hs : s.length < 100000) (w : Rd s L r) : s = txtOf L ++ r ∧ (∀ x ∈ L, Cn x) ∧ r.length ≤ s.length := by
  induction w with
  | nil => exact ⟨rfl, by simp, Nat.le_refl _⟩
  | @snoc L r r' x w e ih =>
    obtain ⟨e1', c1, l1⟩ := ih
    obtain ⟨e2, c2, l2⟩ := rd_sound (by omega) e
    refine ⟨?_, fun y hy => ?_, by omega⟩
    · rw [e1', e2]
      simp [txtOf]
    · rcases List.mem_append.1 hy with z | z
      · exact c1 y z
      · simp at z; rw [z]; exact c2
theorem stop_txt : ∀ {L : List Raw}, stopAt (txtOf L)
  | [] => .inl rfl
  | x :: L => by
    refine .inr ?_
    have e : txtOf (x :: L) = txt1 x ++ txtOf L := rfl
    rw [e]
    unfold txt1
    split
    · exact ⟨33, _, rfl, by decide +kernel⟩
    · split
      · exact ⟨58, _, rfl, by decide +kernel⟩
      · split
        · exact ⟨64, _, rfl, by decide +kernel⟩
        · exact ⟨46, _, rfl, by decide +kernel⟩
theorem Rd.complete {L : List Raw} (c : ∀ x ∈ L, Cn x) : Rd (txtOf L) L [] := by
  have go : ∀ i, i ≤ L.length → Rd (txtOf L) (L.take i) (txtOf (L.drop i)) := by
    intro i
    induction i with
    | zero => intro _; exact .nil
    | succ i ih =>
      intro hi
      obtain ⟨x, hx⟩ : ∃ x, L[i]? = some x := ⟨_, List.getElem?_eq_getElem (by omega)⟩
      have ed : L.drop i = x :: L.drop (i + 1) := by
        have := List.getElem_of_getElem? hx
        rw [← this.2]; exact List.drop_eq_getElem_cons this.1
      rw [List.take_add_one, hx]
      refine .snoc (ih (by omega)) ?_
      rw [ed]
      exact rd_txt1 (c x (List.mem_of_getElem? hx)) stop_txt
  have := go L.length (Nat.le_refl _)
  rw [List.take_length, List.drop_length] at this
  exact this
/-! ### The program -/
theorem topW {a : Option Addr} {c : Nat} {l : List Raw} (hs : SrcAt h 20 (.slice a l.length c) l.length (mcs l)) (ok : ∀ r ∈ l, r.Ok) (pl : ∀ r ∈ l, r.sn = 0 ∧ r.sa = none ∧ r.sc = 0 ∧ 1 ≤ r.kind ∧ r.kind ≤ 4) (hn : l.length ≤ 64) :
    ∃ rows, Top h (ofRaw a c l) rows (ofTree l) ∧ (rright (ofRaw a c l) rows = true ↔ ∀ r ∈ l, rpart r = true) := by
  have leafW : ∀ r ∈ l, Top h r [] (leaf r) := fun r hr => by
    obtain ⟨p1, p2, p3, -, -⟩ := pl r hr
    have sr : SrcAt h 20 (.slice r.sa r.sn r.sc) r.sn (mcs []) := by rw [p1, p2, p3]; exact .none
    exact ⟨.mk (rows := []) (ms := []) (ok r hr) (by rw [p1]; omega) (by rw [p1]; rfl) sr (by simp) rfl (by simp), sr, by simp, by rw [p1]; rfl⟩
  match l, hs, ok, pl, hn, leafW with
  | [], _, _, _, _, _ =>
    refine ⟨[], ⟨nl_deep, .none, by simp, rfl⟩, ?_⟩
    have : rright (ofRaw a c []) [] = true := by unfold rright; rw [if_pos (show (ofRaw a c []).kind = 0 from rfl)]; exact decide_eq_true ⟨rfl, rfl, rfl, rfl⟩
    simp [this]
  | [r], _, ok, pl, _, lw =>
    refine ⟨[], lw r (by simp), ?_⟩
    have hk := pl r (by simp)
    have : rright r [] = rpart r := by unfold rright; rw [if_neg (by omega), if_neg (by omega)]
    show rright r [] = true ↔ _
    rw [this]; simp
  | r :: s :: l, hs, ok, pl, hn, lw =>
    refine ⟨r :: s :: l, ⟨.mk (x := li a (r :: s :: l).length c) (ms := (r :: s :: l).map leaf) li_ok (by show (r :: s :: l).length < _; omega) rfl hs ok (by simp) ?_, hs, ok, rfl⟩, ?_⟩
    · intro i q m hi hm
      rw [List.getElem?_map, hi] at hm
      cases hm
      exact (lw q (List.mem_of_getElem? hi)).deep
    · unfold rright
      rw [if_neg (by show ¬ ((5 : Int) = 0); omega), if_pos (show (ofRaw a c (r :: s :: l)).kind = 5 from rfl), decide_eq_true ⟨rfl, rfl, rfl, by show 2 ≤ (r :: s :: l).length; simp, hn⟩, Bool.true_and, List.all_eq_true]
theorem PS.ret {b0 : Nat} {l0 : List UInt8} {L : List Raw} {a : Option Addr} {c : Nat} {o : List Nat} {hh : Hp} {X : Obj} (w : PS h b0 l0 L a c o hh) : Step [] h [] (hh.put b0 X) := by
  refine ⟨fun q hq _ => ?_, by simp, fun q hq => ?_⟩
  · rw [put_ne fun e => hq (by rw [e]; exact w.f0)]
    exact w.toH.keep q hq (by simp)
  · unfold Hp.put; split
    · simp
    · exact w.toH.dom q hq
theorem Parse_raw (en : Env h) {s : List UInt8} (hs : s.length < 100000)
    (good : ∀ L, Rd s L [] → L.length ≤ 64 → (∀ r ∈ L, rpart r = true) → ∀ y h', Got h' L y → Step [] h [] h' → K (.tuple #[.agg (mc y).toArray, .int .i64 0]) h')
    (bad : ¬ (∃ L, Rd s L [] ∧ L.length ≤ 64 ∧ ∀ r ∈ L, rpart r = true) → ∀ h', Step [] h [] h' → K (.tuple #[.agg (mc nl).toArray, .int .i64 18]) h') : HC P moniker_Parse.n #[.string (str s)] h K := by
  refine moniker_Parse.hc ?_
  unfold moniker_Parse
  intro b0 hb0
  obtain ⟨I0, hI0⟩ : ∃ I0 : List Value → Hp → Prop, I0 = fun vs hh => ∃ (L : List Raw) (r : List UInt8) (a : Option Addr) (c : Nat) (o : List Nat), vs = [.bool true, .string (str r), .slice a L.length c] ∧ Rd s L r ∧ L.length ≤ 65 ∧ r.length ≤ s.length ∧ PS h b0 s L a c o hh := ⟨_, rfl⟩
  obtain ⟨x0, hx0⟩ : ∃ x0 : List Value → Hp → Nat, x0 = fun vs _ => match vs with | [_, .string t, _] => t.size | _ => 0 := ⟨_, rfl⟩
  refine ⟨I0, x0, ?_, ?_⟩
  · rw [hI0]
    exact ⟨[], s, none, 0, [], rfl, .nil, by simp, Nat.le_refl _, ⟨.none, put_self, by simp, hb0, Step.new hb0, by simp, by simp⟩⟩
  intro h0 b1 s1 a0 n0 c0 hin
  rw [hI0] at hin
  obtain ⟨L, r, a, c, o, he, hrd, hL, hrl, w⟩ := hin
  have e1' : b1 = true ∧ s1 = str r ∧ a0 = a ∧ n0 = L.length ∧ c0 = c := by cases he; exact ⟨rfl, rfl, rfl, rfl, rfl⟩
  clear he
  obtain ⟨rfl, rfl, rfl, rfl, rfl⟩ := e1'
  have k54 : (r = [] ∨ 64 < L.length) → moniker_Parse.k54 a0 L.length c0 h0 true b0 K := fun hend => by
    unfold moniker_Parse.k54
    refine gOf_got w.sl.src w.ok (fun le h3 s3 => ⟨_, _, rfl, ?_⟩) fun gt h3 s3 => ⟨_, _, rfl, ?_⟩
    · have hr : r = [] := hend.resolve_right (by omega)
      subst hr
      have w3 := w.step s3
      have ky := ofRaw_ok (a := a0) (c := c0) w.ok
      unfold moniker_Parse.k6
      intro b5 hb5
      refine ⟨by simpa using mc_len ky, mc_cellish, freeM, bcF rfl ?_⟩
      unfold moniker_Parse.k5
      refine bcF rfl ?_
      unfold moniker_Parse.k4
      rw [newM ky hb5]
      have sP : Step [] h3 [] (h3.put b5 (.cells (mc (ofRaw a0 c0 L)).toArray T.api_Moniker (0, 0))) := Step.put (.inr hb5)
      have wP := w3.step sP
      have MP : MB (h3.put b5 (.cells (mc (ofRaw a0 c0 L)).toArray T.api_Moniker (0, 0))) b5 (ofRaw a0 c0 L) := put_self
      obtain ⟨rows, T0, iff⟩ := topW wP.sl.src wP.ok wP.pl le
      refine ⟨_, MP.all ky, Check_spec T0 fun h4 s4 => ⟨_, rfl, ?_⟩⟩
      have w4 := wP.step s4
      unfold moniker_Parse.k3
      by_cases hrp : ∀ r ∈ L, rpart r = true
      · rw [if_pos (iff.2 hrp)]
        refine bcF rfl ?_
        unfold moniker_Parse.k2
        refine ⟨_, (MP.step s4).all ky, by simpa using mc_len ky, mc_cellish, retM2 (C := fun v hh => K (.tuple #[v, .int .i64 0]) hh) ky w4.z ?_⟩
        refine good L hrd le hrp _ _ (got_of ?_ w4.ok hrp le) w4.ret
        exact (w4.sl.keep fun q hq => put_ne fun z => w4.nb (by rw [← z]; exact hq)).src
      · rw [if_neg (fun z => hrp (iff.1 z))]
        refine bcT rfl ?_
        unfold moniker_Parse.k1
        refine ⟨trivial, rfl, by simp [cellish], retM2 (y := nl) (C := fun v hh => K (.tuple #[v, .int .i64 18]) hh) nl_ok w4.z (bad ?_ _ w4.ret)⟩
        rintro ⟨L2, r2, -, rp2⟩
        obtain ⟨rfl, -⟩ := hrd.alike r2 rd_nil
        exact hrp rp2
    · have w3 := w.step s3
      unfold moniker_Parse.k6
      intro b5 hb5
      refine ⟨by simpa using mc_len nl_ok, mc_cellish, freeM, bcF rfl ?_⟩
      unfold moniker_Parse.k5
      refine bcT rfl (fail0 nl_ok hb5 w3.z w3.f0 w3.toH (bad ?_))
      rintro ⟨L2, r2, l2, -⟩
      have := hrd.more r2
      omega
  rw [str_size]
  refine bcase_intro (fun hc => ?_) fun hc => k54 (.inl (List.length_eq_zero_iff.1 (by have := of_decide_eq_false hc; omega)))
  obtain ⟨ch, r, rfl⟩ : ∃ d r', r = d :: r' := by
    cases r with
    | nil => simp at hc
    | cons d r => exact ⟨d, r, rfl⟩
  simp only [List.length_cons] at hrl
  unfold moniker_Parse.k55
  refine bcase_intro (fun h64 => ?_) fun h64 => k54 (.inr (by have := of_decide_eq_false h64; omega))
  have h64 : L.length ≤ 64 := by have := of_decide_eq_true h64; omega
  refine rdBody en w (by omega) h64 (fun e => bad ?_) fun x rest e lr a' c' o' h' w' => ⟨?_, ?_⟩
  · rintro ⟨L2, r2, -, -⟩
    have := (hrd.alike r2 e).2
    cases this
  · rw [hI0]
    exact ⟨L ++ [x], rest, a', c', o', rfl, .snoc hrd e, by simp; omega, by omega, w'⟩
  · rw [hx0]
    show (str rest).size < (str (ch :: r)).size
    rw [str_size, str_size, List.length_cons]; omega
/-- What is read: just what is printed. -/
theorem Parse_spec (en : Env h) {s : List UInt8} (hs : s.length < 100000)
    (good : ∀ L, (∀ r ∈ L, r.Ok ∧ rpart r = true ∧ r.sa = none ∧ r.sc = 0) → L.length ≤ 64 → s = txtOf L → ∀ y h', Got h' L y → Step [] h [] h' → K (.tuple #[.agg (mc y).toArray, .int .i64 0]) h')
    (bad : (∀ L, (∀ r ∈ L, r.Ok ∧ rpart r = true ∧ r.sa = none ∧ r.sc = 0) → L.length ≤ 64 → s ≠ txtOf L) → ∀ h', Step [] h [] h' → K (.tuple #[.agg (mc nl).toArray, .int .i64 18]) h') : HC P moniker_Parse.n #[.string (str s)] h K := by
  refine Parse_raw en hs (fun L w le rp y h' g st => ?_) fun no h' st => bad (fun L c le e => no ⟨L, ?_, le, fun r hr => (c r hr).2.1⟩) h' st
  · obtain ⟨e, cn, -⟩ := w.sound hs
    exact good L (fun r hr => ⟨(cn r hr).ok, rp r hr, (cn r hr).sa, (cn r hr).sc⟩) le (by rw [e]; simp) y h' g st
  · rw [e]
    exact Rd.complete fun r hr => Cn.of (c r hr).1 (c r hr).2.1 (c r hr).2.2.1 (c r hr).2.2.2
/-- What is printed is read as it was. -/
theorem Parse_back (en : Env h) {L : List Raw} (c : ∀ r ∈ L, r.Ok ∧ rpart r = true ∧ r.sa = none ∧ r.sc = 0) (le : L.length ≤ 64)
    (hk : ∀ y h', Got h' L y → Step [] h [] h' → K (.tuple #[.agg (mc y).toArray, .int .i64 0]) h') : HC P moniker_Parse.n #[.string (str (txtOf L))] h K := by
  have w := Rd.complete (L := L) fun r hr => Cn.of (c r hr).1 (c r hr).2.1 (c r hr).2.2.1 (c r hr).2.2.2
  refine Parse_raw en (by have := txtOf_len (l := L) fun r hr => (c r hr).2.1; omega) (fun L2 w2 le2 rp2 y h' g st => ?_) fun no h' st => absurd ⟨L, w, le, fun r hr => (c r hr).2.1⟩ no
  obtain ⟨rfl, -⟩ := w.alike w2 rd_nil
  exact hk y h' g st
end Go.Den.Mon
end

section
set_option linter.unusedVariables false
set_option maxRecDepth 100000
namespace Go.Den.Mon
open Go Go.Den
variable {h : Hp} {K : Value → Hp → Prop}
def itm (l : List UInt8) : Raw := { kd 1 with txt := str l }
theorem itm_ok {l : List UInt8} (hl : l.length ≤ 256) : (itm l).Ok ∧ rpart (itm l) = true ∧ (itm l).sa = none ∧ (itm l).sc = 0 := by
  refine ⟨⟨z16_is, by show (0 : Nat) < _; omega, by show _ ≤ (1 : Int) ∧ (1 : Int) < _; omega, by show (str l).size ≤ _; rw [str_size]; omega⟩, ?_, rfl, rfl⟩
  unfold rpart
  rw [if_pos (show (itm l).kind = 1 from rfl)]
  exact decide_eq_true ⟨rfl, rfl, rfl, by show (str l).size ≤ 256; rw [str_size]; exact hl⟩
theorem Deep.says {x : Raw} {m : Mon} (d : Deep h x m) : ∃ ms, m = .mk x.kind x.id x.txt.data.toList x.H ms := by
  cases d with
  | mk _ _ _ _ _ _ _ => exact ⟨_, rfl⟩
/-- What a moniker of two parts says. -/
theorem Got.two {y a b : Raw} (g : Got h [a, b] y) (ka : rpart a = true) : y.Ok ∧ y.kind = 5 ∧ y.sn = 2 ∧ SrcAt h 20 (.slice y.sa y.sn y.sc) y.sn (mcs [a, b]) := by
  obtain ⟨rows, t, e, f⟩ := g
  have hk : y.kind = 5 := by
    obtain ⟨ms, e0⟩ := t.deep.says
    injection e0 with e1' _ _ _ _
    exact e1'.symm
  have hr : rows = [a, b] := by
    unfold partsOf at e
    rw [if_neg (by omega), if_pos hk] at e
    exact e
  subst hr
  exact ⟨t.deep.ok, hk, t.len.symm, t.src⟩
theorem Got.zero {y : Raw} (g : Got h [] y) : y.Ok ∧ y.kind = 0 := by
  obtain ⟨rows, t, e, f⟩ := g
  refine ⟨t.deep.ok, ?_⟩
  obtain ⟨ms, e0⟩ := t.deep.says
  injection e0 with e1' _ _ _ _
  exact e1'.symm
theorem awake_spec (en : Env h) (hk : ∀ h', Step [] h [] h' → K (.bool true) h') : HC P law21_awake.n #[] h K := by
  refine law21_awake.hc ?_
  unfold law21_awake
  refine ⟨trivial, trivial, ⟨rfl, by simp [cellish], rfl, by simp [cellish], trivial⟩, fun b0 hb0 => ⟨trivial, fun b1 hb1 => ⟨rfl, by simp [cellish], freeM, ?_⟩⟩⟩
  have ka := itm_ok (l := [97, 46, 98]) (by decide)
  have S0 : Step [] h [] (h.put b0 (.cells (Array.mk (catA (mc (itm [97, 46, 98])).toArray (catA (mc anti).toArray []))) T.api_Moniker (0, 0))) := Step.put (.inr hb0)
  have R0 : SrcAt (h.put b0 (.cells (Array.mk (catA (mc (itm [97, 46, 98])).toArray (catA (mc anti).toArray []))) T.api_Moniker (0, 0))) 20 (.slice (some ⟨b0, 0, none⟩) 2 2) 2 (mcs [itm [97, 46, 98], anti]) := src_two ka.1 anti_ok
  have eL : ((h.put b0 (.cells (Array.mk (catA (mc (itm [97, 46, 98])).toArray (catA (mc anti).toArray []))) T.api_Moniker (0, 0))).put b1 (.cells zMon T.api_Moniker (0, 0))).setCells ⟨b1, 0, none⟩ (mc (li (some ⟨b0, 0, none⟩) 2 2)).toArray = (h.put b0 (.cells (Array.mk (catA (mc (itm [97, 46, 98])).toArray (catA (mc anti).toArray []))) T.api_Moniker (0, 0))).put b1 (.cells (mc (li (some ⟨b0, 0, none⟩) 2 2)).toArray T.api_Moniker (0, 0)) := newM li_ok hb1
  show ∃ cs0 : Array Value, CellsAt (((h.put b0 (.cells (Array.mk (catA (mc (itm [97, 46, 98])).toArray (catA (mc anti).toArray []))) T.api_Moniker (0, 0))).put b1 (.cells zMon T.api_Moniker (0, 0))).setCells ⟨b1, 0, none⟩ (mc (li (some ⟨b0, 0, none⟩) 2 2)).toArray) ⟨b1, 0, none⟩ 20 cs0 ∧ HC P moniker_Print.n #[.agg cs0] (((h.put b0 (.cells (Array.mk (catA (mc (itm [97, 46, 98])).toArray (catA (mc anti).toArray []))) T.api_Moniker (0, 0))).put b1 (.cells zMon T.api_Moniker (0, 0))).setCells ⟨b1, 0, none⟩ (mc (li (some ⟨b0, 0, none⟩) 2 2)).toArray) (fun v3 h0 => (∃ s0 : ByteArray, (∃ n0 : Int, (v3 = (.tuple #[.string s0, .int .i64 n0])) ∧ (law21_awake.k10 h0 b1 n0 s0 K))))
  rw [eL]
  have S1 : Step [] (h.put b0 (.cells (Array.mk (catA (mc (itm [97, 46, 98])).toArray (catA (mc anti).toArray []))) T.api_Moniker (0, 0))) [] ((h.put b0 (.cells (Array.mk (catA (mc (itm [97, 46, 98])).toArray (catA (mc anti).toArray []))) T.api_Moniker (0, 0))).put b1 (.cells (mc (li (some ⟨b0, 0, none⟩) 2 2)).toArray T.api_Moniker (0, 0))) := Step.put (.inr hb1)
  have M1 : MB ((h.put b0 (.cells (Array.mk (catA (mc (itm [97, 46, 98])).toArray (catA (mc anti).toArray []))) T.api_Moniker (0, 0))).put b1 (.cells (mc (li (some ⟨b0, 0, none⟩) 2 2)).toArray T.api_Moniker (0, 0))) b1 (li (some ⟨b0, 0, none⟩) 2 2) := put_self
  have S := S0.trans S1
  have G1 := got_of (h := (h.put b0 (.cells (Array.mk (catA (mc (itm [97, 46, 98])).toArray (catA (mc anti).toArray []))) T.api_Moniker (0, 0))).put b1 (.cells (mc (li (some ⟨b0, 0, none⟩) 2 2)).toArray T.api_Moniker (0, 0))) (a := some ⟨b0, 0, none⟩) (c := 2) (l := [itm [97, 46, 98], anti]) (src_step R0 S1) (fun r hr => by
    simp at hr; rcases hr with rfl | rfl
    · exact ka.1
    · exact anti_ok) (fun r hr => by
    simp at hr; rcases hr with rfl | rfl
    · exact ka.2.1
    · exact anti_rp) (by simp)
  generalize (h.put b0 (.cells (Array.mk (catA (mc (itm [97, 46, 98])).toArray (catA (mc anti).toArray []))) T.api_Moniker (0, 0))).put b1 (.cells (mc (li (some ⟨b0, 0, none⟩) 2 2)).toArray T.api_Moniker (0, 0)) = H at *
  obtain ⟨rows, t, ep, er⟩ := G1
  change Top H (li (some ⟨b0, 0, none⟩) 2 2) rows _ at t
  change partsOf (li (some ⟨b0, 0, none⟩) 2 2) rows = _ at ep
  change rright (li (some ⟨b0, 0, none⟩) 2 2) rows = true at er
  refine ⟨_, M1.all li_ok, Print_spec (en.step S) t (fun _ h0 s0 => ⟨_, _, rfl, ?_⟩) fun z => by rw [er] at z; cases z⟩
  rw [ep]
  have tx : (⟨(txtOf [itm [97, 46, 98], anti]).toArray⟩ : ByteArray) = ⟨#[33, 97, 92, 46, 98, 46]⟩ := by
    have : txtOf [itm [97, 46, 98], anti] = [33, 97, 92, 46, 98, 46] := by
      have e1' : txt1 (itm [97, 46, 98]) = 33 :: esc [97, 46, 98] := by
        unfold txt1
        rw [if_pos (show (itm [97, 46, 98]).kind = 1 from rfl)]
        show 33 :: esc (str [97, 46, 98]).data.toList = _
        rw [str_l]
      have e2' : txt1 anti = [46] := by
        unfold txt1
        rw [if_neg (show ¬ anti.kind = 1 from by show ¬ (4 : Int) = 1; omega), if_neg (show ¬ anti.kind = 2 from by show ¬ (4 : Int) = 2; omega), if_neg (show ¬ anti.kind = 3 from by show ¬ (4 : Int) = 3; omega)]
      show txt1 (itm [97, 46, 98]) ++ (txt1 anti ++ []) = _
      rw [e1', e2']
      decide +kernel
    rw [this]
  rw [tx]
  unfold law21_awake.k10
  have kb := itm_ok (l := [97]) (by decide)
  have kc := itm_ok (l := [98]) (by decide)
  have ty : (⟨#[33, 97, 33, 98]⟩ : ByteArray) = str (txtOf [itm [97], itm [98]]) := by
    have : txtOf [itm [97], itm [98]] = [33, 97, 33, 98] := by
      have e1' : ∀ l, txt1 (itm l) = 33 :: esc l := fun l => by
        unfold txt1
        rw [if_pos (show (itm l).kind = 1 from rfl)]
        show 33 :: esc (str l).data.toList = _
        rw [str_l]
      show txt1 (itm [97]) ++ (txt1 (itm [98]) ++ []) = _
      rw [e1', e1']
      decide +kernel
    rw [this]; rfl
  rw [ty]
  refine Parse_back (en.step (S.trans s0)) (L := [itm [97], itm [98]]) (fun r hr => by
    simp at hr; rcases hr with rfl | rfl
    · exact kb
    · exact kc) (by simp) fun y h1 g1 s1 => ⟨_, _, rfl, ?_⟩
  obtain ⟨yo, y5, y2, ys⟩ := g1.two kb.2.1
  unfold law21_awake.k9
  intro b2 hb2
  refine ⟨by simpa using mc_len yo, mc_cellish, freeM, ?_⟩
  rw [newM yo hb2]
  have S2 : Step [] h1 [] (h1.put b2 (.cells (mc y).toArray T.api_Moniker (0, 0))) := Step.put (.inr hb2)
  have M1' := (M1.step (s0.trans s1)).step S2
  have t' := (t.step (s0.trans s1)).step S2
  have My : MB (h1.put b2 (.cells (mc y).toArray T.api_Moniker (0, 0))) b2 y := put_self
  refine ⟨_, M1'.all li_ok, Reduce_spec t' (fun _ z h2 gz s2 => ⟨_, _, rfl, ?_⟩) fun z => by rw [er] at z; cases z⟩
  rw [ep] at gz
  have er0 : red [] [itm [97, 46, 98], anti] = [] := by
    show red1 (red1 [] (itm [97, 46, 98])) anti = []
    unfold red1
    simp [anti, itm, kd]
  rw [er0] at gz
  obtain ⟨zo, z0⟩ := gz.zero
  have My2 := My.step s2
  unfold law21_awake.k8
  intro b3 hb3
  refine ⟨by simpa using mc_len zo, mc_cellish, freeM, bcT rfl ?_⟩
  have S3 : Step [] h2 [] (h2.put b3 (.cells (mc z).toArray T.api_Moniker (0, 0))) := Step.put (.inr hb3)
  have My3 := My2.step S3
  have Mz : MB (h2.put b3 (.cells (mc z).toArray T.api_Moniker (0, 0))) b3 z := put_self
  have eN := newM zo hb3
  unfold law21_awake.k7
  refine bcT (by decide +kernel) ?_
  unfold law21_awake.k6
  refine bcT rfl ?_
  unfold law21_awake.k5
  rw [eN, Addr.add_mk, Nat.zero_add]
  refine ⟨_, My3.kind, bcT (by rw [y5]; rfl) ?_⟩
  unfold law21_awake.k4
  rw [eN, Addr.add_mk, Nat.zero_add]
  refine ⟨_, _, _, My3.L yo, bcT (by rw [y2]; rfl) ?_⟩
  unfold law21_awake.k3
  rw [eN, Addr.add_mk, Nat.zero_add]
  refine ⟨_, _, _, My3.L yo, by omega, by rw [y2]; decide, ?_⟩
  obtain ⟨p, ep', hp, cp⟩ := srcM ys (fun r hr => by
    simp at hr; rcases hr with rfl | rfl
    · exact kb.1
    · exact kc.1) (by rw [y2]; rfl) (i := 1) (x := itm [98]) rfl
  rw [ep', someD_some]
  have cc := cp (h2.put b3 (.cells (mc z).toArray T.api_Moniker (0, 0))) (((S2.trans s2).trans S3).keep _ hp (by simp))
  refine ⟨_, hiAt (j := 0) kc.1 cc rfl, bcT ?_ ?_⟩
  · show (ByteArray.toList (str [98]) == _) = true
    rw [toList_str]
    decide +kernel
  unfold law21_awake.k2
  refine bcT rfl ?_
  unfold law21_awake.k0
  rw [eN, Addr.add_mk, Nat.zero_add]
  refine ⟨_, Mz.kind, ?_⟩
  rw [z0]
  exact hk _ (((((S.trans s0).trans s1).trans S2).trans s2).trans S3)
end Go.Den.Mon
end

section
set_option linter.unusedVariables false
set_option maxRecDepth 100000
namespace Go.Den.Mon
open Go Go.Den
variable {h : Hp} {K : Value → Hp → Prop}
theorem rParse_spec {s : ByteArray} (hs : s.size < 9223372036854775808)
    (k1 : s.data.toList.map la = prL (scan s.data.toList).2 → ∀ h', Step [] h [] h' → K (.tuple #[.agg (gcs (scan s.data.toList).2), .bool true]) h')
    (k0 : s.data.toList.map la ≠ prL (scan s.data.toList).2 → ∀ h', Step [] h [] h' → K (.tuple #[.agg zGuid, .bool false]) h') :
    HC P ref01_Parse.n #[.string s] h K := by
  generalize hl : s.data.toList = l at *
  have hsz : s.size = l.length := by rw [Lib.size_eq, hl]
  have sget : ∀ {p : Nat}, p < l.length → s[p]? = some (l.getD p 0) := fun {p} hp => by rw [ba_get (by rw [hl]; exact hp), hl]
  refine ref01_Parse.hc ?_
  unfold ref01_Parse
  intro b0 hb0 b1 hb1
  obtain ⟨n10, hb1'⟩ := put_none hb1
  have st : Step [] h [b1] ((h.put b0 (.cells zGuid T.api_Guid (0, 0))).put b1 (.cells zGuid T.api_Guid (0, 0))) := (Step.put (.inr hb0)).trans (Step.new hb1)
  have X0 : ((h.put b0 (.cells zGuid T.api_Guid (0, 0))).put b1 (.cells zGuid T.api_Guid (0, 0))) b0 = some (.cells zGuid T.api_Guid (0, 0)) := by rw [put_ne (Ne.symm n10), put_self]
  have X1 : ((h.put b0 (.cells zGuid T.api_Guid (0, 0))).put b1 (.cells zGuid T.api_Guid (0, 0))) b1 = some (.cells zGuid T.api_Guid (0, 0)) := put_self
  obtain ⟨I0, hI0⟩ : ∃ I0 : List Value → Hp → Prop, I0 = fun vs hh => ∃ (j : Nat), vs = [.int .i64 ((scan (l.take j)).1 : Nat), .int .i64 (j : Int)] ∧ j ≤ l.length ∧ hh b1 = some (.cells (gcs (scan (l.take j)).2) T.api_Guid (0, 0)) ∧ hh b0 = some (.cells zGuid T.api_Guid (0, 0)) ∧ Step [] h [b1] hh := ⟨_, rfl⟩
  obtain ⟨x0, hx0⟩ : ∃ x0 : List Value → Hp → Nat, x0 = fun vs _ => match vs with | [_, .int _ i] => l.length - i.toNat | _ => 0 := ⟨_, rfl⟩
  refine ⟨I0, x0, by rw [hI0]; exact ⟨0, rfl, by omega, X1, X0, st⟩, ?_⟩
  intro h0 n0 n1 hin
  rw [hI0] at hin
  obtain ⟨j, he, hj, B1, B0, stp0⟩ := hin
  have e0 : n0 = ((scan (l.take j)).1 : Nat) ∧ n1 = (j : Int) := by cases he; exact ⟨rfl, rfl⟩
  clear he
  obtain ⟨rfl, rfl⟩ := e0
  have st0' : Step [] h [] h0 := stp0.forget0
  refine bcase_intro (fun hc => ?_) fun hc => ?_
  · have hc : j < l.length := by have := of_decide_eq_true hc; omega
    have hn := scan_le (l.take j)
    rw [List.length_take] at hn
    have hgi := scan_is (l.take j)
    have hsc : scan (l.take (j + 1)) = stp (scan (l.take j)) (l.getD j 0) := by rw [take_snoc hc, scan_snoc]
    generalize hq : scan (l.take j) = q at *
    obtain ⟨n, g⟩ := q
    simp only at hn hgi B1 ⊢
    generalize hb : l.getD j 0 = b at *
    have wj : IntKind.wrap .i64 ((j : Int) + 1) = ((j + 1 : Nat) : Int) := wrapN (by omega) (by omega)
    have wn : IntKind.wrap .i64 ((n : Int) + 1) = ((n + 1 : Nat) : Int) := wrapN (by omega) (by omega)
    have lesser : ∀ {v v' : Value} {hh hh' : Hp}, x0 [v, .int .i64 ((j + 1 : Nat) : Int)] hh < x0 [v', .int .i64 (j : Int)] hh' := fun {v v' hh hh'} => by
      rw [hx0]
      show l.length - ((j + 1 : Nat) : Int).toNat < l.length - (j : Int).toNat
      omega
    have skip : hv b.toNat < 0 → ref01_Parse.k7 I0 n j h0 x0 := fun hv0 => by
      unfold ref01_Parse.k7
      rw [wj]
      have e : stp (n, g) b = (n, g) := by unfold stp; rw [if_neg (by omega)]
      rw [e] at hsc
      refine ⟨?_, lesser⟩
      rw [hI0]
      exact ⟨j + 1, by rw [hsc], by omega, by rw [hsc]; exact B1, B0, stp0⟩
    have over : 0 ≤ hv b.toNat → ¬ n < 32 → ref01_Parse.k1 I0 n j h0 x0 := fun hv0 h32 => by
      unfold ref01_Parse.k1
      rw [wj, wn]
      have e : stp (n, g) b = (n + 1, g) := by unfold stp; rw [if_pos hv0]; simp [h32]
      rw [e] at hsc
      refine ⟨?_, lesser⟩
      rw [hI0]
      exact ⟨j + 1, by rw [hsc], by omega, by rw [hsc]; exact B1, B0, stp0⟩
    have core : ∀ (V : Int → Int), 0 ≤ hv b.toNat → n < 32 → (∀ x : Nat, x < 256 → V (x : Int) = (((x * 16 + (hv b.toNat).toNat) % 256 : Nat) : Int)) →
        ((2 : Int) ≠ 0) ∧ ((2 : Int) ≠ 0) ∧ ((0 : Int) ≤ (IntKind.wrap .i64 (Int.tdiv n 2))) ∧ ((IntKind.wrap .i64 (Int.tdiv n 2)) < (16 : Int)) ∧ (∃ n2 : Int, ((h0.cell? ((⟨b1, 0, none⟩ : Addr).add ((IntKind.wrap .i64 (Int.tdiv n 2)).toNat * 1))) = (some (.int .u8 n2))) ∧ ((0 : Int) ≤ (IntKind.wrap .i64 (Int.tdiv n 2))) ∧ ((IntKind.wrap .i64 (Int.tdiv n 2)) < (16 : Int)) ∧ (∃ u0 : Value, (h0.cell? ((⟨b1, 0, none⟩ : Addr).add ((IntKind.wrap .i64 (Int.tdiv n 2)).toNat * 1))) = (some u0)) ∧ ((h0.frozen? ((⟨b1, 0, none⟩ : Addr).add ((IntKind.wrap .i64 (Int.tdiv n 2)).toNat * 1))) = Bool.false) ∧ (I0 [.int .i64 (IntKind.wrap .i64 (n + 1)), .int .i64 (IntKind.wrap .i64 (j + 1))] (h0.setCell ((⟨b1, 0, none⟩ : Addr).add ((IntKind.wrap .i64 (Int.tdiv n 2)).toNat * 1)) (.int .u8 (V n2)))) ∧
          (x0 [.int .i64 (IntKind.wrap .i64 (n + 1)), .int .i64 (IntKind.wrap .i64 (j + 1))] (h0.setCell ((⟨b1, 0, none⟩ : Addr).add ((IntKind.wrap .i64 (Int.tdiv n 2)).toNat * 1)) (.int .u8 (V n2)))) < (x0 [.int .i64 n, .int .i64 j] h0)) := by
      intro V hv0 h32 hV
      have w2 : IntKind.wrap .i64 (Int.tdiv (n : Int) 2) = ((n / 2 : Nat) : Int) := by rw [Int.tdiv_eq_ediv_of_nonneg (by omega)]; exact wrapN (by omega) (by omega)
      have hlt : n / 2 < g.length := by rw [hgi.1]; omega
      have hx : g[n / 2] < 256 := hgi.2 _ (List.getElem_mem _)
      rw [w2, wj, wn]
      simp only [Addr.add_mk, Int.toNat_natCast, Nat.mul_one, Nat.zero_add]
      refine ⟨by omega, by omega, by omega, by omega, (g[n / 2] : Nat), by rw [cell_of B1, gcs_get]; simp [hlt], by omega, by omega, ⟨_, by rw [cell_of B1, gcs_get, List.getElem?_eq_getElem hlt]; rfl⟩, frozen_of B1, ?_, lesser⟩
      rw [hV _ hx]
      have e : stp (n, g) b = (n + 1, g.set (n / 2) ((g[n / 2] * 16 + (hv b.toNat).toNat) % 256)) := by
        unfold stp; rw [if_pos hv0]; simp [h32, List.getD, hlt]
      rw [e] at hsc
      rw [hI0]
      refine ⟨j + 1, by rw [hsc], by omega, ?_, by rw [setCell_ne (Ne.symm n10)]; exact B0, stp0.trans (Step.setCell B1 (by simp))⟩
      rw [setCell_blk B1, gcs_set, hsc]
    have hb256 : b.toNat < 256 := UInt8.toNat_lt _
    have k9' : ¬ (48 ≤ b.toNat ∧ b.toNat ≤ 57) → ¬ (97 ≤ b.toNat ∧ b.toNat ≤ 102) → ref01_Parse.k9 b n h0 b1 I0 j x0 := fun g1 g2 => by
      unfold ref01_Parse.k9
      refine bcase_intro (fun e1 => ?_) fun e1 => ?_
      · have e1 := of_decide_eq_true e1
        unfold ref01_Parse.k8
        refine bcase_intro (fun e2 => ?_) fun e2 => ?_
        · have e2 := of_decide_eq_true e2
          have hve : hv b.toNat = (b.toNat : Int) - 55 := by unfold hv; rw [if_neg g1, if_neg g2, if_pos (by omega)]
          unfold ref01_Parse.k6
          refine bcase_intro (fun e3 => ?_) fun e3 => ?_
          · have e3 := of_decide_eq_true e3
            unfold ref01_Parse.k5
            refine core (fun n4 => IntKind.wrap .u8 ((IntKind.wrap .u8 (n4 * 16)) + (IntKind.wrap .u8 (IntKind.wrap .i64 ((IntKind.wrap .i64 (IntKind.wrap .u8 ((b.toNat : Int) - 65))) + 10))))) (by omega) (by omega) fun x hx => ?_
            show IntKind.wrap .u8 ((IntKind.wrap .u8 ((x : Int) * 16)) + (IntKind.wrap .u8 (IntKind.wrap .i64 ((IntKind.wrap .i64 (IntKind.wrap .u8 ((b.toNat : Int) - 65))) + 10)))) = _
            rw [hve, IntKind.wrap_u8, IntKind.wrap_u8, IntKind.wrap_u8, IntKind.wrap_u8, IntKind.wrap_i64, IntKind.wrap_i64]; omega
          · exact over (by omega) (by have := of_decide_eq_false e3; omega)
        · exact skip (by rw [hv_out g1 g2 (by have := of_decide_eq_false e2; omega)]; decide)
      · exact skip (by rw [hv_out g1 g2 (by have := of_decide_eq_false e1; omega)]; decide)
    have k11' : ¬ (48 ≤ b.toNat ∧ b.toNat ≤ 57) → ref01_Parse.k11 b n h0 b1 I0 j x0 := fun g1 => by
      unfold ref01_Parse.k11
      refine bcase_intro (fun e1 => ?_) fun e1 => ?_
      · have e1 := of_decide_eq_true e1
        unfold ref01_Parse.k10
        refine bcase_intro (fun e2 => ?_) fun e2 => ?_
        · have e2 := of_decide_eq_true e2
          have hve : hv b.toNat = (b.toNat : Int) - 87 := by unfold hv; rw [if_neg g1, if_pos (by omega)]
          unfold ref01_Parse.k4
          refine bcase_intro (fun e3 => ?_) fun e3 => ?_
          · have e3 := of_decide_eq_true e3
            unfold ref01_Parse.k3
            refine core (fun n4 => IntKind.wrap .u8 ((IntKind.wrap .u8 (n4 * 16)) + (IntKind.wrap .u8 (IntKind.wrap .i64 ((IntKind.wrap .i64 (IntKind.wrap .u8 ((b.toNat : Int) - 97))) + 10))))) (by omega) (by omega) fun x hx => ?_
            show IntKind.wrap .u8 ((IntKind.wrap .u8 ((x : Int) * 16)) + (IntKind.wrap .u8 (IntKind.wrap .i64 ((IntKind.wrap .i64 (IntKind.wrap .u8 ((b.toNat : Int) - 97))) + 10)))) = _
            rw [hve, IntKind.wrap_u8, IntKind.wrap_u8, IntKind.wrap_u8, IntKind.wrap_u8, IntKind.wrap_i64, IntKind.wrap_i64]; omega
          · exact over (by omega) (by have := of_decide_eq_false e3; omega)
        · exact k9' g1 (by have := of_decide_eq_false e2; omega)
      · exact k9' g1 (by have := of_decide_eq_false e1; omega)
    unfold ref01_Parse.k13
    refine ⟨by omega, b, by rw [Int.toNat_natCast, ← hb]; exact sget hc, bcase_intro (fun e1 => ?_) fun e1 => ?_⟩
    · have e1 := of_decide_eq_true e1
      unfold ref01_Parse.k12
      refine bcase_intro (fun e2 => ?_) fun e2 => ?_
      · have e2 := of_decide_eq_true e2
        have hve : hv b.toNat = (b.toNat : Int) - 48 := by unfold hv; rw [if_pos (by omega)]
        unfold ref01_Parse.k2
        refine bcase_intro (fun e3 => ?_) fun e3 => ?_
        · have e3 := of_decide_eq_true e3
          unfold ref01_Parse.k0
          refine core (fun n2 => IntKind.wrap .u8 ((IntKind.wrap .u8 (n2 * 16)) + (IntKind.wrap .u8 (IntKind.wrap .i64 (IntKind.wrap .u8 ((b.toNat : Int) - 48)))))) (by omega) (by omega) fun x hx => ?_
          show IntKind.wrap .u8 ((IntKind.wrap .u8 ((x : Int) * 16)) + (IntKind.wrap .u8 (IntKind.wrap .i64 (IntKind.wrap .u8 ((b.toNat : Int) - 48))))) = _
          rw [hve, IntKind.wrap_u8, IntKind.wrap_u8, IntKind.wrap_u8, IntKind.wrap_u8, IntKind.wrap_i64]; omega
        · exact over (by omega) (by have := of_decide_eq_false e3; omega)
      · exact k11' (by have := of_decide_eq_false e2; omega)
    · exact k11' (by have := of_decide_eq_false e1; omega)
  · have hc : j = l.length := by have := of_decide_eq_false hc; omega
    subst hc
    rw [List.take_length] at B1
    have hgi := scan_is l
    generalize hG : (scan l).2 = G at *
    unfold ref01_Parse.k23
    refine ⟨_, cellsAt_blk B1 (by rw [gcs_size, hgi.1]), rPrint_spec hgi fun h1 s1 => ⟨_, rfl, ?_⟩⟩
    have B1 := s1.keepB0 B1
    have B0 := s1.keepB0 B0
    have st1 := st0'.trans s1
    have fail : l.map la ≠ prL G → ref01_Parse.k14 h1 b0 K := fun hne => by
      unfold ref01_Parse.k14
      exact gfail B0 (k0 hne _ st1)
    have pz : (prS G).size = (prL G).length := rfl
    have pget : ∀ {p : Nat}, p < (prL G).length → (prS G)[p]? = some ((prL G).getD p 0) := fun {p} hp => ba_get (s := prS G) (by simpa [prS] using hp)
    unfold ref01_Parse.k22
    generalize prS G = S at *
    generalize hY : prL G = Y at *
    refine bcase_intro (fun e => fail fun e2 => ?_) fun e => ?_
    · have : (l.map la).length = Y.length := by rw [e2]
      rw [List.length_map] at this
      rw [hsz, pz, this] at e; simp at e
    have hlen : l.length = Y.length := by
      have : (s.size : Int) = S.size := by simpa using e
      omega
    unfold ref01_Parse.k21
    obtain ⟨I1, hI1⟩ : ∃ I1 : List Value → Hp → Prop, I1 = fun vs hh => ∃ (bb : Bool) (i : Nat), vs = [.bool bb, .int .i64 (i : Int)] ∧ hh = h1 ∧ i ≤ l.length ∧ (l.take i).map la = Y.take i := ⟨_, rfl⟩
    obtain ⟨x1, hx1⟩ : ∃ x1 : List Value → Hp → Nat, x1 = fun vs _ => match vs with | [_, .int _ i] => l.length - i.toNat | _ => 0 := ⟨_, rfl⟩
    refine ⟨I1, x1, by rw [hI1]; exact ⟨false, 0, rfl, rfl, by omega, rfl⟩, ?_⟩
    intro h2 bb n5 hin
    rw [hI1] at hin
    obtain ⟨bb', i, he, rfl, hi, htk⟩ := hin
    cases he
    refine bcase_intro (fun hc => ?_) fun hc => ?_
    · have hc : i < l.length := by have := of_decide_eq_true hc; omega
      have wi : IntKind.wrap .i64 ((i : Int) + 1) = ((i + 1 : Nat) : Int) := wrapN (by omega) (by omega)
      have good : la (l.getD i 0) = Y.getD i 0 → ref01_Parse.k15 I1 bb i h2 x1 := fun e => by
        unfold ref01_Parse.k15
        rw [wi]
        refine ⟨?_, ?_⟩
        · rw [hI1]
          refine ⟨bb, i + 1, rfl, rfl, by omega, ?_⟩
          rw [take_snoc hc, take_snoc (by omega), List.map_append, htk]
          simp only [List.map_cons, List.map_nil, e]
        · rw [hx1]
          show l.length - ((i + 1 : Nat) : Int).toNat < l.length - (i : Int).toNat
          omega
      have bad : la (l.getD i 0) ≠ Y.getD i 0 → ref01_Parse.k14 h2 b0 K := fun e => fail fun e2 => e (by
        rw [← e2, List.getD, List.getD, List.getElem?_map, List.getElem?_eq_getElem hc]; rfl)
      have hla := la_toNat (l.getD i 0)
      have hY256 : (Y.getD i 0).toNat < 256 := UInt8.toNat_lt _
      have plain : ¬ (65 ≤ (l.getD i 0).toNat ∧ (l.getD i 0).toNat ≤ 70) → ref01_Parse.k17 i S (l.getD i 0) h2 b0 K I1 bb x1 := fun hno => by
        rw [if_neg hno] at hla
        unfold ref01_Parse.k17
        refine ⟨by omega, _, by rw [Int.toNat_natCast]; exact pget (by omega), bcase_intro (fun e => bad fun e2 => ?_) fun e => good (UInt8.toNat_inj.1 ?_)⟩
        · rw [← e2, hla] at e; simp at e
        · have : ((l.getD i 0).toNat : Int) = ((Y.getD i 0).toNat : Int) := by simpa using e
          omega
      unfold ref01_Parse.k19
      refine ⟨by omega, _, by rw [Int.toNat_natCast]; exact sget hc, bcase_intro (fun e => ?_) fun e => plain (by have := of_decide_eq_false e; omega)⟩
      have e := of_decide_eq_true e
      unfold ref01_Parse.k18
      refine bcase_intro (fun e' => ?_) fun e' => plain (by have := of_decide_eq_false e'; omega)
      have e' := of_decide_eq_true e'
      rw [if_pos (by omega)] at hla
      unfold ref01_Parse.k16
      have w : IntKind.wrap .u8 ((IntKind.wrap .u8 (((l.getD i 0).toNat : Int) - 65)) + 97) = ((la (l.getD i 0)).toNat : Int) := by
        rw [hla, IntKind.wrap_u8, IntKind.wrap_u8]; omega
      rw [w]
      refine ⟨by omega, _, by rw [Int.toNat_natCast]; exact pget (by omega), bcase_intro (fun e => bad fun e2 => ?_) fun e => good (UInt8.toNat_inj.1 ?_)⟩
      · rw [← e2] at e; simp at e
      · have : ((la (l.getD i 0)).toNat : Int) = ((Y.getD i 0).toNat : Int) := by simpa using e
        omega
    · have hc : i = l.length := by have := of_decide_eq_false hc; omega
      subst hc
      rw [List.take_length, hlen, List.take_length] at htk
      unfold ref01_Parse.k20
      refine gdone hgi.1 B1 B0 (k1 htk _ ?_)
      exact ⟨fun k hk hn => by rw [put_ne (fun e => by subst e; exact hk hb0)]; exact st1.keep k hk hn, fun k hk => by simp at hk, fun k hk => by unfold Hp.put; split <;> simp [st1.dom k hk]⟩
end Go.Den.Mon
end

section
set_option linter.unusedVariables false
set_option maxRecDepth 100000
namespace Go.Den.Mon
open Go Go.Den
variable {h : Hp} {K : Value → Hp → Prop}
theorem Deep.leaf {r : Raw} {m : Mon} (d : Deep h r m) (h0 : r.sn = 0) : m = leaf r := by
  cases d with
  | @mk _ rows ms _ _ hl _ _ hm _ =>
    have : ms = [] := List.length_eq_zero_iff.1 (by omega)
    subst this
    rfl
theorem txt0 {s : ByteArray} (e : s.size = 0) : s.data.toList = [] := List.length_eq_zero_iff.1 (by rw [← Lib.size_eq]; exact e)
/-- A right one's tree is its parts'. -/
theorem right_tree {x : Raw} {rows : List Raw} {m : Mon} (t : Top h x rows m) (e : rright x rows = true) : m = ofTree (partsOf x rows) := by
  unfold rright at e
  unfold partsOf
  split at e
  · rename_i h0
    have d := of_decide_eq_true e
    rw [if_pos h0]
    rw [t.deep.leaf d.2.2.2]
    unfold leaf ofTree
    rw [h0, d.2.1, d.2.2.1, txt0 d.1]
  · rename_i h0
    split at e
    · rename_i h5
      rw [Bool.and_eq_true] at e
      have d := of_decide_eq_true e.1
      have rp := List.all_eq_true.1 e.2
      rw [if_neg h0, if_pos h5]
      have td := t.deep
      have tl := t.len
      have ts := t.src
      have tok := t.ok
      cases td with
      | @mk _ rows' ms ok hb hl hs okr hm hd =>
        have er : rows' = rows := by
          refine List.ext_getElem? fun i => ?_
          by_cases hi : i < x.sn
          · obtain ⟨r1, q1⟩ : ∃ r, rows'[i]? = some r := ⟨_, List.getElem?_eq_getElem (by omega)⟩
            obtain ⟨r2, q2⟩ : ∃ r, rows[i]? = some r := ⟨_, List.getElem?_eq_getElem (by omega)⟩
            obtain ⟨p1, e1', -, c1⟩ := srcM hs okr hl q1
            obtain ⟨p2, e2', -, c2⟩ := srcM ts tok tl q2
            rw [e1'] at e2'
            cases e2'
            have a := c1 h rfl
            have b := c2 h rfl
            have : mc r1 = mc r2 := by
              refine List.ext_getElem? fun j => ?_
              have l1 := mc_len (okr r1 (List.mem_of_getElem? q1))
              have l2 := mc_len (tok r2 (List.mem_of_getElem? q2))
              by_cases hj : j < 20
              · obtain ⟨v, hv⟩ : ∃ v, (mc r1)[j]? = some v := ⟨_, List.getElem?_eq_getElem (by omega)⟩
                obtain ⟨u, hu⟩ : ∃ u, (mc r2)[j]? = some u := ⟨_, List.getElem?_eq_getElem (by omega)⟩
                have x1 := a.2 j v (by rw [List.getElem?_toArray]; exact hv)
                have x2 := b.2 j u (by rw [List.getElem?_toArray]; exact hu)
                rw [x1] at x2; cases x2
                rw [hv, hu]
              · rw [List.getElem?_eq_none (by omega), List.getElem?_eq_none (by omega)]
            have : r1 = r2 := by
              unfold mc at this
              obtain ⟨k1, g1, t1, H1, a1, n1, c1'⟩ := r1
              obtain ⟨k2, g2, t2, H2, a2, n2, c2'⟩ := r2
              have o1 := (okr _ (List.mem_of_getElem? q1)).id.1
              have o2 := (tok _ (List.mem_of_getElem? q2)).id.1
              simp only at o1 o2
              simp only [List.cons.injEq] at this
              obtain ⟨z1, z2⟩ := this
              have z3 := List.append_inj z2 (by rw [gvs_len, gvs_len, o1, o2])
              have z4 := gvs_inj z3.1
              have z5 := z3.2
              simp at z1 z5
              obtain ⟨y1, y2, y3, y4, y5⟩ := z5
              subst z1 z4 y1 y3 y4 y5
              have : H1 = H2 := by omega
              subst this
              rfl
            rw [q1, q2, this]
          · rw [List.getElem?_eq_none (by omega), List.getElem?_eq_none (by omega)]
        subst er
        have em : ms = rows'.map leaf := by
          refine List.ext_getElem? fun i => ?_
          by_cases hi : i < rows'.length
          · obtain ⟨r1, q1⟩ : ∃ r, rows'[i]? = some r := ⟨_, List.getElem?_eq_getElem hi⟩
            obtain ⟨m1, q2⟩ : ∃ r, ms[i]? = some r := ⟨_, List.getElem?_eq_getElem (by omega)⟩
            rw [q2, List.getElem?_map, q1, (hd i r1 m1 q1 q2).leaf (rp_sn (rp r1 (List.mem_of_getElem? q1)))]
            rfl
          · rw [List.getElem?_eq_none (by omega), List.getElem?_eq_none (by simp; omega)]
        rw [em, h5, d.2.1, d.2.2.1, txt0 d.1]
        match rows', hl, d.2.2.2.1 with
        | [], hl, d2 => simp at hl; omega
        | [_], hl, d2 => simp at hl; omega
        | _ :: _ :: _, _, _ => rfl
    · rename_i h5
      rw [if_neg h0, if_neg h5]
      exact t.deep.leaf (rp_sn e)
def Rt (h : Hp) (l : List Raw) (x : Raw) : Prop := ∃ rows m, Top h x rows m ∧ partsOf x rows = l ∧ rright x rows = true
section
variable {h' : Hp} {l l' : List Raw} {x y : Raw}
theorem Got.rt (g : Got h l x) : Rt h l x := by obtain ⟨rows, t, a, b⟩ := g; exact ⟨rows, _, t, a, b⟩
theorem Rt.step (g : Rt h l x) (s : Step [] h [] h') : Rt h' l x := by obtain ⟨rows, m, t, a, b⟩ := g; exact ⟨rows, m, t.step s, a, b⟩
theorem Rt.ok (g : Rt h l x) : x.Ok := by obtain ⟨rows, m, t, a, b⟩ := g; exact t.deep.ok
theorem Rt.len (g : Rt h l x) : l.length ≤ 64 := by obtain ⟨rows, m, t, a, b⟩ := g; rw [← a]; exact parts_len t b
theorem Rt.got (g : Rt h l x) : Got h l x := by
  obtain ⟨rows, m, t, a, b⟩ := g
  have := right_tree t b
  rw [a] at this
  subst this
  exact ⟨rows, t, a, b⟩
theorem got_nl : Got h [] nl := ⟨[], ⟨nl_deep, .none, by simp, rfl⟩, rfl, by unfold rright; rw [if_pos (show nl.kind = 0 from rfl)]; exact decide_eq_true ⟨rfl, rfl, rfl, rfl⟩⟩
theorem Got.same (g : Got h l x) (g' : Got h l y) (hk : ∀ h', Step [] h [] h' → K (.bool true) h') : HC P ref21_Same.n #[.agg (mc x).toArray, .agg (mc y).toArray] h K := by
  obtain ⟨rows, t, -, -⟩ := g
  obtain ⟨rows', t', -, -⟩ := g'
  refine rSame_spec t.deep h y _ _ (Step.refl _ _) t'.deep fun r h2 hr s2 => ?_
  rw [hr.2 rfl]; exact hk h2 s2
end
end Go.Den.Mon
end

section
set_option linter.unusedVariables false
set_option maxRecDepth 100000
namespace Go.Den.Mon
open Go Go.Den
variable {h : Hp} {K : Value → Hp → Prop}
theorem txt1_cases {y : Raw} {rest d : List UInt8} {c : UInt8} (cy : Cn y) (e : c :: d = txt1 y ++ rest) :
    (c = 33 ∧ d = esc y.txt.data.toList ++ rest ∧ y = { kd 1 with txt := y.txt }) ∨ (c = 58 ∧ d = prL y.id ++ rest ∧ y = { kd 2 with id := y.id }) ∨ (c = 64 ∧ d = hf y.H 16 ++ rest ∧ y = { kd 3 with H := y.H }) ∨ (c = 46 ∧ d = rest ∧ y = kd 4) := by
  obtain ⟨kind, id, txt, H, sa, sn, sc⟩ := y
  obtain ⟨ok, c1, c2, c3, ck, i1, h1, t1⟩ := cy
  simp only at c1 c2 c3 ck i1 h1 t1
  subst c1 c2 c3
  rcases ck with q | q | q | q
  · subst q
    obtain rfl := i1 (by omega)
    obtain rfl := h1 (by omega)
    have et : txt1 ⟨1, z16, txt, 0, none, 0, 0⟩ ++ rest = 33 :: (esc txt.data.toList ++ rest) := by unfold txt1; rw [if_pos rfl]; rfl
    rw [et] at e
    injection e with e1' e2'
    exact .inl ⟨e1', e2', rfl⟩
  · subst q
    obtain rfl := h1 (by omega)
    obtain rfl := t1 (by omega)
    have et : txt1 ⟨2, id, ⟨#[]⟩, 0, none, 0, 0⟩ ++ rest = 58 :: (prL id ++ rest) := by unfold txt1; rw [if_neg (by show ¬ (2 : Int) = 1; omega), if_pos rfl]; rfl
    rw [et] at e
    injection e with e1' e2'
    exact .inr (.inl ⟨e1', e2', rfl⟩)
  · subst q
    obtain rfl := i1 (by omega)
    obtain rfl := t1 (by omega)
    have et : txt1 ⟨3, z16, ⟨#[]⟩, H, none, 0, 0⟩ ++ rest = 64 :: (hf H 16 ++ rest) := by unfold txt1; rw [if_neg (by show ¬ (3 : Int) = 1; omega), if_neg (by show ¬ (3 : Int) = 2; omega), if_pos rfl]; rfl
    rw [et] at e
    injection e with e1' e2'
    exact .inr (.inr (.inl ⟨e1', e2', rfl⟩))
  · subst q
    obtain rfl := i1 (by omega)
    obtain rfl := h1 (by omega)
    obtain rfl := t1 (by omega)
    have et : txt1 ⟨4, z16, ⟨#[]⟩, 0, none, 0, 0⟩ ++ rest = 46 :: rest := by unfold txt1; rw [if_neg (by show ¬ (4 : Int) = 1; omega), if_neg (by show ¬ (4 : Int) = 2; omega), if_neg (by show ¬ (4 : Int) = 3; omega)]; rfl
    rw [et] at e
    injection e with e1' e2'
    exact .inr (.inr (.inr ⟨e1', e2', rfl⟩))
theorem MB.setK {b : Nat} {x : Raw} {k : Int} (m : MB h b x) : MB (h.setCell ⟨b, 0, none⟩ (.int .i64 k)) b { x with kind := k } := by
  unfold MB
  rw [setCell_blk m]
  congr 2
/-- What is read so far. -/
structure PD (h : Hp) (b0 : Nat) (L : List Raw) (a : Option Addr) (c : Nat) (o : List Nat) (hh : Hp) : Prop where
  sl : SlAt hh T.api_Moniker 20 AnyV a L.length c (mcs L) o
  z : hh b0 = some (.cells zMon T.api_Moniker (0, 0))
  nb : b0 ∉ o
  f0 : h b0 = none
  st : Step [] h (o ++ [b0]) hh
  ok : ∀ r ∈ L, r.Ok
  pl : ∀ r ∈ L, r.sn = 0 ∧ r.sa = none ∧ r.sc = 0
section
variable {b0 : Nat} {L : List Raw} {a : Option Addr} {c : Nat} {o : List Nat} {hh h' : Hp}
theorem PD.step (w : PD h b0 L a c o hh) (s : Step [] hh [] h') : PD h b0 L a c o h' :=
  ⟨w.sl.keep fun q hq => s.keep q (w.sl.mem q hq) (by simp), s.keepB0 w.z, w.nb, w.f0, w.st.trans (by simpa using s.frame (o ++ [b0])), w.ok, w.pl⟩
theorem PD.wr {own : List Nat} (w : PD h b0 L a c o hh) (s : Step own hh own h') (h1 : b0 ∉ own) (h2 : ∀ q ∈ o, q ∉ own) (h3 : ∀ q ∈ own, h q = none) : PD h b0 L a c o h' := by
  refine ⟨w.sl.keep fun q hq => s.keep q (w.sl.mem q hq) (h2 q hq), by rw [s.keep b0 (by rw [w.z]; simp) h1]; exact w.z, w.nb, w.f0, ?_, w.ok, w.pl⟩
  have base := w.st
  refine ⟨fun k hk hn => ?_, fun k hk => base.own k hk, fun k hk => s.dom k (base.dom k hk)⟩
  rw [s.keep k (base.dom k hk) fun z => hk (h3 k z)]
  exact base.keep k hk hn
theorem PD.toH (w : PD h b0 L a c o hh) : Step [] h [] hh := w.st.forget0
theorem PD.free (w : PD h b0 L a c o hh) {b : Nat} (hb : hh b = none) : h b = none := Classical.byContradiction fun e => w.st.dom b e hb
theorem PD.push (w : PD h b0 L a c o hh) {x : Raw} (k : x.Ok) (hp : x.sn = 0 ∧ x.sa = none ∧ x.sc = 0) {a' : Option Addr} {c' : Nat} {o' : List Nat} (s : SlAt h' T.api_Moniker 20 AnyV a' (L ++ [x]).length c' (mcs (L ++ [x])) o') (st : Step o hh o' h') : PD h b0 (L ++ [x]) a' c' o' h' := by
  refine ⟨s, by rw [st.keep b0 (by rw [w.z]; simp) w.nb]; exact w.z, fun q => ?_, w.f0, w.st.trans (st.frame [b0]), fun r hr => ?_, fun r hr => ?_⟩
  · rcases st.own b0 q with z | z
    · exact w.nb z
    · rw [w.z] at z; cases z
  · rcases List.mem_append.1 hr with z | z
    · exact w.ok r z
    · simp at z; rw [z]; exact k
  · rcases List.mem_append.1 hr with z | z
    · exact w.pl r z
    · simp at z; rw [z]; exact hp
theorem PD.ret {X : Obj} (w : PD h b0 L a c o hh) : Step [] h [] (hh.put b0 X) := by
  refine ⟨fun q hq _ => ?_, by simp, fun q hq => ?_⟩
  · rw [put_ne fun e => hq (by rw [e]; exact w.f0)]
    exact w.toH.keep q hq (by simp)
  · unfold Hp.put; split
    · simp
    · exact w.toH.dom q hq
end
def rowsD : List Raw → List Raw
  | [] => []
  | [_] => []
  | r :: s :: l => r :: s :: l
theorem topD {a : Option Addr} {c : Nat} {l : List Raw} (hs : SrcAt h 20 (.slice a l.length c) l.length (mcs l)) (ok : ∀ r ∈ l, r.Ok) (pl : ∀ r ∈ l, r.sn = 0 ∧ r.sa = none ∧ r.sc = 0) (hb : l.length < 9223372036854775808) :
    ∃ rows, rows = rowsD l ∧ Top h (ofRaw a c l) rows (ofTree l) ∧ (l.length ≤ 64 → (∀ r ∈ l, rpart r = true) → rright (ofRaw a c l) rows = true ∧ partsOf (ofRaw a c l) rows = l) ∧ ∀ p ∈ partsOf (ofRaw a c l) rows, p ∈ l := by
  have leafW : ∀ r ∈ l, Top h r [] (leaf r) := fun r hr => by
    obtain ⟨p1, p2, p3⟩ := pl r hr
    have sr : SrcAt h 20 (.slice r.sa r.sn r.sc) r.sn (mcs []) := by rw [p1, p2, p3]; exact .none
    exact ⟨.mk (rows := []) (ms := []) (ok r hr) (by rw [p1]; omega) (by rw [p1]; rfl) sr (by simp) rfl (by simp), sr, by simp, by rw [p1]; rfl⟩
  match l, hs, ok, pl, hb, leafW with
  | [], _, _, _, _, _ =>
    have : rright (ofRaw a c []) [] = true := by unfold rright; rw [if_pos (show (ofRaw a c []).kind = 0 from rfl)]; exact decide_eq_true ⟨rfl, rfl, rfl, rfl⟩
    exact ⟨[], rfl, ⟨nl_deep, .none, by simp, rfl⟩, fun _ _ => ⟨this, rfl⟩, fun p hp => hp⟩
  | [r], _, ok, pl, _, lw =>
    refine ⟨[], rfl, lw r (by simp), fun _ rp => rr_part (rp r (by simp)), fun p hp => ?_⟩
    change p ∈ partsOf r [] at hp
    unfold partsOf at hp
    split at hp
    · simp at hp
    · split at hp
      · simp at hp
      · exact hp
  | r :: s :: l, hs, ok, pl, hb, lw =>
    refine ⟨r :: s :: l, rfl, ⟨.mk (x := li a (r :: s :: l).length c) (ms := (r :: s :: l).map leaf) li_ok hb rfl hs ok (by simp) ?_, hs, ok, rfl⟩, fun hn rp => ⟨?_, rfl⟩, fun p hp => hp⟩
    · intro i q m hi hm
      rw [List.getElem?_map, hi] at hm
      cases hm
      exact (lw q (List.mem_of_getElem? hi)).deep
    · unfold rright
      rw [if_neg (by show ¬ ((5 : Int) = 0); omega), if_pos (show (ofRaw a c (r :: s :: l)).kind = 5 from rfl), decide_eq_true ⟨rfl, rfl, rfl, by show 2 ≤ (r :: s :: l).length; simp, hn⟩, Bool.true_and, List.all_eq_true]
      exact rp
end Go.Den.Mon
end

section
set_option linter.unusedVariables false
set_option maxRecDepth 100000
namespace Go.Den.Mon
open Go Go.Den
variable {h : Hp} {K : Value → Hp → Prop}
def canonL (M : List Raw) : Prop := ∀ r ∈ M, r.Ok ∧ rpart r = true ∧ r.sa = none ∧ r.sc = 0
theorem rEnd {b0 : Nat} {L : List Raw} {a : Option Addr} {c : Nat} {o : List Nat} {hh : Hp} {s : List UInt8} (w : PD h b0 L a c o hh) (ll : L.length ≤ 65) (inv : ∀ M, canonL M → M.length ≤ 64 → s = txtOf M → M = L)
    (good : ∀ M, canonL M → M.length ≤ 64 → s = txtOf M → ∀ y h', Got h' M y → Step [] h [] h' → K (.tuple #[.agg (mc y).toArray, .bool true]) h')
    (bad : (∀ M, canonL M → M.length ≤ 64 → s ≠ txtOf M) → ∀ h', Step [] h [] h' → K (.tuple #[.agg (mc nl).toArray, .bool false]) h') : ref21_Parse.k53 a L.length c hh b0 K (str s) := by
  unfold ref21_Parse.k53
  have f46 : ∀ {h16 : Hp}, PD h b0 L a c o h16 → (∀ M, canonL M → M.length ≤ 64 → s ≠ txtOf M) → ref21_Parse.k46 h16 b0 K := fun w q => by
    unfold ref21_Parse.k46
    exact ⟨trivial, rfl, by simp [cellish], retM2 (y := nl) (C := fun v hh => K (.tuple #[v, .bool false]) hh) nl_ok w.z (bad q _ w.ret)⟩
  refine rOf_got w.sl.src w.ok (fun le h15 s15 => ⟨_, _, rfl, ?_⟩) fun gt h15 s15 => ⟨_, _, rfl, ?_⟩
  · have w15 := w.step s15
    have ky := ofRaw_ok (a := a) (c := c) w.ok
    unfold ref21_Parse.k52
    intro b31 hb31
    refine ⟨by simpa using mc_len ky, mc_cellish, freeM, bcF rfl ?_⟩
    have S31 : Step [] h15 [] (h15.put b31 (.cells (mc (ofRaw a c L)).toArray T.api_Moniker (0, 0))) := Step.put (.inr hb31)
    have w31 := w15.step S31
    have M31 : MB (h15.put b31 (.cells (mc (ofRaw a c L)).toArray T.api_Moniker (0, 0))) b31 (ofRaw a c L) := put_self
    obtain ⟨rows, er, T0, fc, fm⟩ := topD w31.sl.src w31.ok w31.pl (by omega)
    unfold ref21_Parse.k51
    rw [newM ky hb31]
    refine ⟨_, M31.all ky, rRight_spec T0 fun h16 s16 => ⟨_, rfl, ?_⟩⟩
    have w16 := w31.step s16
    have M16 := M31.step s16
    have T16 := T0.step s16
    unfold ref21_Parse.k50
    cases hr : rright (ofRaw a c L) rows with
    | false =>
      refine bcT rfl (f46 w16 fun M cM lM e => ?_)
      have := inv M cM lM e
      subst this
      rw [(fc lM fun r hr' => (cM r hr').2.1).1] at hr
      cases hr
    | true =>
      refine bcF rfl ?_
      unfold ref21_Parse.k49
      refine ⟨_, M16.all ky, rPrintM_spec T16 hr fun h17 s17 => ⟨_, rfl, ?_⟩⟩
      have w17 := w16.step s17
      have M17 := M16.step s17
      have cP : canonL (partsOf (ofRaw a c L) rows) := fun r hr' => ⟨w.ok r (fm r hr'), parts_rp hr r hr', (w.pl r (fm r hr')).2.1, (w.pl r (fm r hr')).2.2⟩
      have lP := parts_len T16 hr
      have cmp : (ByteArray.toList (⟨(txtOf (partsOf (ofRaw a c L) rows)).toArray⟩ : ByteArray) == ByteArray.toList (str s)) = decide (txtOf (partsOf (ofRaw a c L) rows) = s) := by
        rw [show (⟨(txtOf (partsOf (ofRaw a c L) rows)).toArray⟩ : ByteArray) = str (txtOf (partsOf (ofRaw a c L) rows)) from rfl, toList_str, toList_str, beq_dec]
      unfold ref21_Parse.k48
      rw [cmp]
      refine bcase_intro (fun q => ?_) fun q => ?_
      · have q : ¬ txtOf (partsOf (ofRaw a c L) rows) = s := by simpa using q
        refine f46 w17 fun M cM lM e => q ?_
        have := inv M cM lM e
        subst this
        rw [(fc lM fun r hr' => (cM r hr').2.1).2, e]
      · have q : txtOf (partsOf (ofRaw a c L) rows) = s := by simpa using q
        unfold ref21_Parse.k47
        refine ⟨_, M17.all ky, by simpa using mc_len ky, mc_cellish, retM2 (C := fun v hh => K (.tuple #[v, .bool true]) hh) ky w17.z (good _ cP lP q.symm _ _ ?_ w17.ret)⟩
        have src : SrcAt (h17.put b0 (.cells (mc (ofRaw a c L)).toArray T.api_Moniker (0, 0))) 20 (.slice a L.length c) L.length (mcs L) := (w17.sl.keep fun z hz => put_ne fun e => w17.nb (by rw [← e]; exact hz)).src
        obtain ⟨rows2, er2, T2, -, -⟩ := topD src w.ok w.pl (by omega)
        have : rows2 = rows := by rw [er2, er]
        subst this
        exact Rt.got ⟨_, _, T2, rfl, hr⟩
  · have w15 := w.step s15
    unfold ref21_Parse.k52
    intro b31 hb31
    have n0 : b0 ≠ b31 := fun e => by rw [← e, w15.z] at hb31; cases hb31
    have S31 : Step [] h15 [] (h15.put b31 (.cells (mc nl).toArray T.api_Moniker (0, 0))) := Step.put (.inr hb31)
    have w31 := w15.step S31
    refine ⟨by simpa using mc_len nl_ok, mc_cellish, freeM, bcT rfl ?_⟩
    unfold ref21_Parse.k45
    rw [newM nl_ok hb31]
    refine ⟨trivial, rfl, by simp [cellish], retM2 (y := nl) (C := fun v hh => K (.tuple #[v, .bool false]) hh) nl_ok w31.z (bad (fun M cM lM e => ?_) _ w31.ret)⟩
    have := inv M cM lM e
    subst this
    omega
end Go.Den.Mon
end

