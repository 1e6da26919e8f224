import Derived.Test.YtigpmmikmepcbaaGreatDoorDenS
import Derived.KernelRfl
import Derived.Lib.TrimUEq
/- Texts that the claim needs, joined. -/
section
set_option linter.unusedVariables false
set_option maxRecDepth 100000
namespace Go.Den.Mon
open Go Go.Den
variable {h : Hp} {K : Value → Hp → Prop}
theorem lays240 : Go.Proofs.Lays.n240 P Go.Proofs.Tryz.lays159_ren := { Go.Proofs.Tryz.lays159 with }
theorem x72 : Go.Proofs.Builder.X72 P Go.Proofs.Tryz.lays159_ren := { Go.Proofs.Tryz.extra159 with }
/-! ### A Builder -/
def BldAt (h : Hp) (b : Nat) (bs : List UInt8) (o : List Nat) : Prop := ∃ (p : Option Addr) (a : Option Addr) (c : Nat), h b = some (.cells #[.pointer p, .slice a bs.length c] T.strings_Builder (0, 0)) ∧ (p = none ∨ p = some ⟨b, 0, none⟩) ∧ SlAt h T.uint8 1 AnyV a bs.length c (bvs bs) o ∧ b ∉ o ∧ (a = none ∨ 0 < c ∧ ∃ g, a = some ⟨g, 0, none⟩)
theorem copyCheck_spec {b : Nat} {p : Option Addr} {v : Value} (hb : h b = some (.cells #[.pointer p, v] T.strings_Builder (0, 0))) (hp : p = none ∨ p = some ⟨b, 0, none⟩)
    (hk : K (.tuple #[]) (h.put b (.cells #[.pointer (some ⟨b, 0, none⟩), v] T.strings_Builder (0, 0)))) : HC P strings_Builder_copyCheck.n #[.pointer (some ⟨b, 0, none⟩)] h K := by
  intro w hw
  have hwb : w.heap[b]? = some (.cells #[.pointer p, v] T.strings_Builder (0, 0)) := by rw [← hw] at hb; exact (hp_some hb).1
  have c0 : w.cell? ⟨b, 0, none⟩ = some (.pointer p) := by rw [← hp_cell?, hw, cell_of hb]; rfl
  rcases hp with rfl | rfl
  · refine (callsIn_wide.2 (Go.Proofs.Any.Builder_copyCheck_fresh lays240 x72 b w c0 (by simp [World.shape?, hwb]; rfl) (by rw [← hp_frozen?, hw]; exact frozen_of hb))).mono ?_
    rintro e w' ⟨rfl, rfl⟩
    refine ⟨_, rfl, Amb.setCell _ _ _, ?_⟩
    rw [hp_setCell, hw, setCell_of hb]
    exact hk
  · refine (callsIn_wide.2 (Go.Proofs.Any.Builder_copyCheck_used lays240 x72 b w c0)).mono ?_
    rintro e w' ⟨rfl, rfl⟩
    refine ⟨_, rfl, Amb.refl _, ?_⟩
    rw [hw]
    rw [put_id hb] at hk
    exact hk
theorem BldAt.step {h h' : Hp} {b : Nat} {bs : List UInt8} {o own : List Nat} (B : BldAt h b bs o) (s : Step own h own h') (hb : b ∉ own) (ho : ∀ k ∈ o, k ∉ own) : BldAt h' b bs o := by
  obtain ⟨p, a, c, B0, hp, sl, hn, hr⟩ := B
  exact ⟨p, a, c, s.block B0 hb, hp, sl.keep fun k hk => s.keep k (sl.mem k hk) (ho k hk), hn, hr⟩
theorem BldAt.mem {h : Hp} {b : Nat} {bs : List UInt8} {o : List Nat} (B : BldAt h b bs o) : h b ≠ none := by
  obtain ⟨p, a, c, B0, -⟩ := B
  rw [B0]; simp
theorem BldAt.new {h : Hp} {b : Nat} (hb : h b = none) : BldAt (h.put b (.cells #[.pointer none, .slice none 0 0] T.strings_Builder (0, 0))) b [] [] :=
  ⟨none, none, 0, put_self, .inl rfl, .none, by simp, .inl rfl⟩
theorem BldAt.put {h : Hp} {b : Nat} {bs' : List UInt8} {o o' : List Nat} {a a' : Option Addr} {n n' c c' : Nat} {h' : Hp} (hb : b ∉ o) (B0 : h b = some (.cells #[.pointer (some ⟨b, 0, none⟩), .slice a n c] T.strings_Builder (0, 0)))
    (s1 : SlAt h' T.uint8 1 AnyV a' n' c' (bvs bs') o') (hn : n' = bs'.length) (ha : a' = none ∨ 0 < c' ∧ ∃ g, a' = some ⟨g, 0, none⟩) (S : Step o h o' h') : BldAt (h'.setCell ⟨b, 1, none⟩ (.slice a' n' c')) b bs' o' ∧ Step (o ++ [b]) h (o' ++ [b]) (h'.setCell ⟨b, 1, none⟩ (.slice a' n' c')) := by
  subst hn
  have B1 : h' b = some (.cells #[.pointer (some ⟨b, 0, none⟩), .slice a n c] T.strings_Builder (0, 0)) := S.block B0 hb
  have hb' : b ∉ o' := fun hm => by
    rcases S.own b hm with hm | hm
    · exact hb hm
    · rw [B0] at hm; cases hm
  refine ⟨⟨_, a', c', ?_, .inr rfl, ?_, hb', ha⟩, ?_⟩
  · rw [setCell_blk B1]; rfl
  · exact s1.keep fun k hk => setCell_ne fun e => hb' (by rw [← e]; exact hk)
  · exact (S.frame [b]).trans (Step.setCell B1 (by simp))
theorem room {h : Hp} {a a' : Option Addr} {len c c' n : Nat} {o : List Nat} {vs : List Value} (s : SlAt h T.uint8 1 AnyV a len c vs o) (hr : a = none ∨ 0 < c ∧ ∃ g, a = some ⟨g, 0, none⟩) (hle : len + n ≤ c') (e1 : len + n ≤ c → a' = a ∧ c' = c) (e2 : c < len + n → ∃ g, a' = some ⟨g, 0, none⟩) : a' = none ∨ 0 < c' ∧ ∃ g, a' = some ⟨g, 0, none⟩ := by
  by_cases hle' : len + n ≤ c
  · obtain ⟨rfl, rfl⟩ := e1 hle'
    exact hr
  · exact .inr ⟨by omega, e2 (by omega)⟩
theorem pushB0 {a : Option Addr} {len cap b n : Nat} {o : List Nat} {bs ws : List UInt8} (s : SlAt h T.uint8 1 AnyV a len cap (bvs bs) o) (hb : h b = none) (hw : ws.length = n) (hn : len + n < 2 ^ 32)
    (hk : ∀ a' cap' o' h', SlAt h' T.uint8 1 AnyV a' (len + n) cap' (bvs (bs ++ ws)) o' → Step o h o' h' → (len + n ≤ cap → a' = a ∧ cap' = cap) → (cap < len + n → ∃ g, a' = some ⟨g, 0, none⟩) → K (.slice a' (len + n) cap') h') :
    wpSem P (Builtin.append_ #[T.sl_uint8, T.sl_uint8] T.sl_uint8 #[.slice a len cap, .slice (some ⟨b, 0, none⟩) n n]) K (h.put b (.cells (bvs ws).toArray T.uint8 (0, 0))) := by
  have nb : ∀ k ∈ o, k ≠ b := fun k hk e => s.mem k hk (by rw [e]; exact hb)
  refine append_row (P := P) (Z := AnyV) (cs := bvs ws) (n := n) slU8 slU8.1 (s.keep fun k hk => put_ne (nb k hk)) (fun _ _ _ _ _ _ => trivial) (.some ⟨by simp [bvs_len, hw], fun j v hv => by rw [Addr.add_mk, cell_of put_self, Nat.zero_add]; exact hv⟩) bvs_cellish hn fun a' cap' o' h' s1 e1 e2 st => ?_
  rw [← bvs_app] at s1
  exact hk a' cap' o' h' s1 ((Step.put (.inr hb)).trans st) (fun hh => ⟨(e1 hh).1, (e1 hh).2.1⟩) e2
theorem writeByte_spec {b x : Nat} {bs : List UInt8} {o : List Nat} (B : BldAt h b bs o) (hx : x < 256) (hl : bs.length < 1000000) (hk : ∀ h' o', BldAt h' b (bs ++ [x.toUInt8]) o' → Step (o ++ [b]) h (o' ++ [b]) h' → K .nilIface h') : HC P strings_Builder_WriteByte.n #[.pointer (some ⟨b, 0, none⟩), .int .u8 (x : Int)] h K := by
  obtain ⟨p, a, c, B0, hp, sl, hn, hr⟩ := B
  refine strings_Builder_WriteByte.hc ?_
  unfold strings_Builder_WriteByte
  refine copyCheck_spec B0 hp ?_
  obtain ⟨h0, hh0⟩ : ∃ h0, h0 = h.put b (.cells #[.pointer (some ⟨b, 0, none⟩), .slice a bs.length c] T.strings_Builder (0, 0)) := ⟨_, rfl⟩
  rw [← hh0]
  have C0 : h0 b = some (.cells #[.pointer (some ⟨b, 0, none⟩), .slice a bs.length c] T.strings_Builder (0, 0)) := by rw [hh0, put_self]
  have s0 : SlAt h0 T.uint8 1 AnyV a bs.length c (bvs bs) o := sl.keep fun k hk => by rw [hh0, put_ne fun e => hn (by rw [← e]; exact hk)]
  have S0 : Step (o ++ [b]) h (o ++ [b]) h0 := by rw [hh0]; exact Step.put (.inl (by simp))
  unfold strings_Builder_WriteByte.k1
  simp only [someD_some, Addr.add_mk, Nat.zero_add]
  refine ⟨a, bs.length, c, by rw [cell_of C0]; rfl, fun b0 hb0 => ?_⟩
  have ex : (Array.mk [Value.int .u8 (x : Int)]) = (bvs [x.toUInt8]).toArray := by
    have : (x.toUInt8).toNat = x := by show x % 256 = x; omega
    simp [bvs, this]
  show wpSem P _ _ (h0.put b0 (.cells (Array.mk [Value.int .u8 (x : Int)]) T.uint8 (0, 0)))
  rw [ex]
  refine pushB0 s0 hb0 rfl (by omega) fun a' c' o' h' s1 st e1 e2 => ⟨_, _, _, rfl, ?_⟩
  unfold strings_Builder_WriteByte.k0
  simp only [someD_some, Addr.add_mk, Nat.zero_add]
  obtain ⟨q1, q2⟩ := BldAt.put hn C0 s1 (by simp) (room s0 hr s1.le_cap e1 e2) st
  have C1 : h' b = some (.cells #[.pointer (some ⟨b, 0, none⟩), .slice a bs.length c] T.strings_Builder (0, 0)) := st.block C0 hn
  exact ⟨⟨_, by rw [cell_of C1]; rfl⟩, frozen_of C1, hk _ o' q1 (S0.trans q2)⟩
theorem writeString_spec {b : Nat} {s : ByteArray} {bs : List UInt8} {o : List Nat} (B : BldAt h b bs o) (hl : bs.length + s.size < 1000000) (hk : ∀ h' o', BldAt h' b (bs ++ s.data.toList) o' → Step (o ++ [b]) h (o' ++ [b]) h' → K (.tuple #[.int .i64 (s.size : Int), .nilIface]) h') : HC P strings_Builder_WriteString.n #[.pointer (some ⟨b, 0, none⟩), .string s] h K := by
  obtain ⟨p, a, c, B0, hp, sl, hn, hr⟩ := B
  refine strings_Builder_WriteString.hc ?_
  unfold strings_Builder_WriteString
  refine copyCheck_spec B0 hp ?_
  obtain ⟨h0, hh0⟩ : ∃ h0, h0 = h.put b (.cells #[.pointer (some ⟨b, 0, none⟩), .slice a bs.length c] T.strings_Builder (0, 0)) := ⟨_, rfl⟩
  rw [← hh0]
  have C0 : h0 b = some (.cells #[.pointer (some ⟨b, 0, none⟩), .slice a bs.length c] T.strings_Builder (0, 0)) := by rw [hh0, put_self]
  have s0 : SlAt h0 T.uint8 1 AnyV a bs.length c (bvs bs) o := sl.keep fun k hk => by rw [hh0, put_ne fun e => hn (by rw [← e]; exact hk)]
  have S0 : Step (o ++ [b]) h (o ++ [b]) h0 := by rw [hh0]; exact Step.put (.inl (by simp))
  unfold strings_Builder_WriteString.k1
  simp only [someD_some, Addr.add_mk, Nat.zero_add]
  refine ⟨a, bs.length, c, by rw [cell_of C0]; rfl, ?_⟩
  refine append_str (P := P) (Z := AnyV) (n := s.size) (cs := bvs s.data.toList) slU8 (by kernel_rfl) s0 (fun _ _ _ _ _ _ => trivial) rfl rfl rfl (by omega) fun a' c' o' h' s1 e1 e2 st => ⟨_, _, _, rfl, ?_⟩
  unfold strings_Builder_WriteString.k0
  simp only [someD_some, Addr.add_mk, Nat.zero_add]
  rw [← bvs_app] at s1
  obtain ⟨q1, q2⟩ := BldAt.put hn C0 s1 (by rw [List.length_append]; rfl) (room s0 hr s1.le_cap (fun hh => ⟨(e1 hh).1, (e1 hh).2.1⟩) e2) st
  have C1 : h' b = some (.cells #[.pointer (some ⟨b, 0, none⟩), .slice a bs.length c] T.strings_Builder (0, 0)) := st.block C0 hn
  exact ⟨⟨_, by rw [cell_of C1]; rfl⟩, frozen_of C1, hk _ o' q1 (S0.trans q2)⟩
theorem wp_loadB {C : ByteArray → Hp → Prop} : ∀ (l : List UInt8) (a : Addr) (acc : ByteArray), (∀ (j : Nat) (x : UInt8), l[j]? = some x → h.cell? (a.add j) = some (.int .u8 (x.toNat : Int))) → C ⟨acc.data ++ l.toArray⟩ h → wpSem P (loadBytes a acc l.length) C h
  | [], a, acc, _, hk => by
    show C acc h
    simpa using hk
  | x :: l, a, acc, hc, hk => by
    have h0 : h.cell? a = some (.int .u8 (x.toNat : Int)) := by
      have := hc 0 x rfl
      rwa [show a.add 0 = a from rfl] at this
    have ad : ∀ j, (a.add 1).add j = a.add (j + 1) := fun j => by
      obtain ⟨b, o, s⟩ := a
      unfold Addr.add
      by_cases hj : j = 0
      · subst hj; simp
      · simp [hj]; omega
    have ih := wp_loadB (C := C) l (a.add 1) (acc.push x) (fun j y hy => by rw [ad]; exact hc (j + 1) y (by simpa using hy)) (by
      have e : (acc.push x).data ++ l.toArray = acc.data ++ (x :: l).toArray := by apply Array.ext'; simp [ByteArray.push]
      rw [e]; exact hk)
    show wpSem P (load a >>= _) C h
    refine ⟨_, h0, ?_⟩
    have ex : ((x.toNat : Int).toNat).toUInt8 = x := by simp
    show wpSem P (loadBytes (a.add 1) (acc.push ((x.toNat : Int).toNat).toUInt8) l.length) C h
    rw [ex]; exact ih
theorem freeze_off {h : Hp} {a : Addr} {n k : Nat} (hk : k ≠ a.block) : h.freeze a n k = h k := by
  unfold Hp.freeze
  by_cases e : n = 0
  · rw [if_pos e]
  · rw [if_neg e, if_neg hk]
theorem freeze_dom {h : Hp} {a : Addr} {n k : Nat} (hk : h k ≠ none) : h.freeze a n k ≠ none := by
  unfold Hp.freeze
  split
  · exact hk
  · split
    · cases e : h k with
      | none => exact absurd e hk
      | some o => simp
    · exact hk
theorem str_wp {C : Value → Hp → Prop} {b cap : Nat} {bs : List UInt8} {o : List Nat} (sl : SlAt h T.uint8 1 AnyV (some ⟨b, 0, none⟩) bs.length cap (bvs bs) o) (hl : bs.length < 1000000) (hk : ∀ h', Step o h o h' → C (.string ⟨bs.toArray⟩) h') :
    wpSem P (Builtin.unsafeString_ #[T.ptr_uint8, T.int] T.string #[.pointer (some ⟨b, 0, none⟩), .int .i64 (bs.length : Int)]) C h := by
  have hp : P.underlying T.ptr_uint8 = some (.pointer T.uint8) := by kernel_rfl
  have hM : IntKind.i64.max = 9223372036854775807 := rfl
  have hc1 : P.cellsOf T.uint8 = 1 := by kernel_rfl
  have hdef : Builtin.unsafeString_ #[T.ptr_uint8, T.int] T.string #[.pointer (some ⟨b, 0, none⟩), .int .i64 (bs.length : Int)] =
      (do
        let n ← asInt (.int .i64 (bs.length : Int))
        if n < 0 then runtimePanic (.error "unsafe.String: len out of range")
        if n > IntKind.i64.max then unsupported (.unsafePointer "String: a length above the largest int")
        if n = 0 then pure (.string .empty)
        else if ← variablesAt ⟨b, 0, none⟩ (← elemOf T.ptr_uint8) n.toNat then do
          let s ← loadBytes ⟨b, 0, none⟩ .empty n.toNat
          freeze ⟨b, 0, none⟩ n.toNat
          pure (.string s)
        else unsupported (.unsafePointer "String: not so many bytes at ptr")) := rfl
  rw [hdef]
  refine wpSem_bind _ _ _ _ (wp_pure (P := P) ?_)
  rw [if_neg (by omega), if_neg (by omega)]
  by_cases hz : bs.length = 0
  · rw [if_pos (by omega)]
    have : bs = [] := List.length_eq_zero_iff.1 hz
    subst this
    exact hk h (Step.refl _ _)
  rw [if_neg (by omega)]
  generalize hvs : bvs bs = vs at sl
  cases sl with
  | @some _ _ _ _ pre _ rest post hb hpre h1 h2 h3 h4 =>
    have hpre : pre = [] := List.length_eq_zero_iff.1 hpre
    subst hpre hvs
    refine wpSem_bind _ _ _ _ ?_
    unfold elemOf
    refine wpSem_bind _ _ _ _ (wp_underlying hp ?_)
    refine wp_pure (P := P) ?_
    have hsh : h.shape? b = some (T.uint8, (([] : List Value) ++ (bvs bs ++ (rest ++ post))).toArray.size) := by unfold Hp.shape?; rw [hb]
    have hn : bs.length ≤ (([] : List Value) ++ (bvs bs ++ (rest ++ post))).toArray.size := by simp [bvs_len]
    have hlies := Lib.liesAt_bytes (P := P) hc1 ((([] : List Value) ++ (bvs bs ++ (rest ++ post))).toArray.size / P.cellsOf T.uint8) bs.length (by rw [hc1]; simpa using hn)
    refine wpSem_bind _ _ _ _ ?_
    show wpSem P (match h.shape? b with | some (e, cells) => pure (liesAt P P.depth e (cells / P.cellsOf e) 0 T.uint8 bs.length) | none => pure false) _ h
    rw [hsh]
    show wpSem P (pure (liesAt P P.depth T.uint8 _ 0 T.uint8 bs.length) : Sem Bool) _ h
    rw [hlies]
    refine wp_pure (P := P) ?_
    rw [if_pos rfl]
    refine wpSem_bind _ _ _ _ ?_
    show wpSem P (loadBytes ⟨b, 0, none⟩ ByteArray.empty bs.length) _ h
    refine wp_loadB bs _ _ (fun j x hx => ?_) ?_
    · rw [Addr.add_mk, cell_of hb, get_mid (pre := []) (off := 0) rfl (by rw [bvs_len]; exact (List.getElem?_eq_some_iff.1 hx).1)]
      simp [bvs, hx]
    · have e : ((ByteArray.empty).data ++ bs.toArray) = bs.toArray := by
        show (#[] : Array UInt8) ++ bs.toArray = _
        simp
      rw [e]
      refine hk _ ⟨fun k hk hn => freeze_off fun e => hn (by simp [e]), fun k hk => .inl hk, fun k hk => freeze_dom hk⟩
theorem bldString_spec {b : Nat} {bs : List UInt8} {o : List Nat} (B : BldAt h b bs o) (hl : bs.length < 1000000) (hk : ∀ h' o', Step (o ++ [b]) h o' h' → K (.string ⟨bs.toArray⟩) h') : HC P strings_Builder_String.n #[.pointer (some ⟨b, 0, none⟩)] h K := by
  obtain ⟨p, a, c, B0, hp, sl, hn, hr⟩ := B
  refine strings_Builder_String.hc ?_
  unfold strings_Builder_String
  have cc : h.cell? ⟨b, 1, none⟩ = some (.slice a bs.length c) := by rw [cell_of B0]; rfl
  simp only [someD_some, Addr.add_mk, Nat.zero_add]
  refine ⟨_, _, _, cc, _, _, _, cc, ?_⟩
  rcases hr with rfl | ⟨hc, g, rfl⟩
  · have hbs : bs = [] := by
      generalize hvs : bvs bs = vs at sl
      generalize hnn : bs.length = n at sl
      cases sl with
      | none => exact List.length_eq_zero_iff.1 hnn
    subst hbs
    show wpSem P (pure (.pointer none) : Sem Value) _ h
    refine wp_pure (P := P) ⟨none, rfl, ?_⟩
    unfold strings_Builder_String.k0
    simp only [Addr.add_mk, Nat.zero_add]
    refine ⟨⟨_, _, _, cc, rfl⟩, ?_⟩
    show wpSem P (Builtin.unsafeString_ #[T.ptr_uint8, T.int] T.string #[.pointer none, .int .i64 0]) _ h
    exact ⟨_, rfl, hk h o ((Step.refl (o ++ [b]) h).weak (fun _ h => h) fun k hk => .inr (.inl (by simp [hk])))⟩
  · obtain ⟨k, rfl⟩ : ∃ k, c = k + 1 := ⟨c - 1, by omega⟩
    show wpSem P (pure (.pointer (some ⟨g, 0, none⟩)) : Sem Value) _ h
    refine wp_pure (P := P) ⟨_, rfl, ?_⟩
    unfold strings_Builder_String.k0
    simp only [Addr.add_mk, Nat.zero_add]
    refine ⟨⟨_, _, _, cc, rfl⟩, ?_⟩
    refine str_wp sl hl fun h' S => ⟨_, rfl, hk h' (o ++ [b]) (S.frame [b])⟩
end Go.Den.Mon
end

section
set_option linter.unusedVariables false
set_option maxRecDepth 100000
namespace Go.Den.Mon
open Go Go.Den
variable {h : Hp} {K : Value → Hp → Prop}
/-! ### Places -/
def dn (k : Nat) : Nat := (if 4 < k then 1 else 0) + (if 6 < k then 1 else 0) + (if 8 < k then 1 else 0) + (if 10 < k then 1 else 0)
def at' (k : Nat) : Nat := 1 + 2 * k + dn k
def pos (k : Nat) : Nat := 1 + 2 * k + dn (k + 1)
theorem dn_le (k : Nat) : dn k ≤ 4 := by unfold dn; split <;> split <;> split <;> split <;> omega
theorem at_succ (k : Nat) : at' (k + 1) = pos k + 2 := by unfold at' pos; omega
theorem pos_dash {k : Nat} (hd : dash k = true) : pos k = at' k + 1 := by
  unfold dash at hd
  rcases of_decide_eq_true hd with rfl | rfl | rfl | rfl <;> rfl
theorem pos_plain {k : Nat} (hd : dash k = false) : pos k = at' k := by
  have hd := of_decide_eq_false hd
  unfold pos at' dn
  by_cases h1 : 4 < k
  · by_cases h2 : 6 < k
    · by_cases h3 : 8 < k
      · by_cases h4 : 10 < k
        · simp [h1, h2, h3, h4, show 4 < k + 1 by omega, show 6 < k + 1 by omega, show 8 < k + 1 by omega, show 10 < k + 1 by omega]
        · simp [h1, h2, h3, h4, show 4 < k + 1 by omega, show 6 < k + 1 by omega, show 8 < k + 1 by omega, show ¬ 10 < k + 1 by omega]
      · simp [h1, h2, h3, show ¬ 10 < k by omega, show 4 < k + 1 by omega, show 6 < k + 1 by omega, show ¬ 8 < k + 1 by omega, show ¬ 10 < k + 1 by omega]
    · simp [h1, h2, show ¬ 8 < k by omega, show ¬ 10 < k by omega, show 4 < k + 1 by omega, show ¬ 6 < k + 1 by omega, show ¬ 8 < k + 1 by omega, show ¬ 10 < k + 1 by omega]
  · simp [h1, show ¬ 6 < k by omega, show ¬ 8 < k by omega, show ¬ 10 < k by omega, show ¬ 4 < k + 1 by omega, show ¬ 6 < k + 1 by omega, show ¬ 8 < k + 1 by omega, show ¬ 10 < k + 1 by omega]
theorem pos_lt {k : Nat} (hk : k < 16) : pos k + 1 < 37 := by unfold pos; have := dn_le (k + 1); omega
/-! ### What is read -/
def by' (l : List UInt8) (p : Nat) : Nat := (l.getD p 0).toNat
def ok (l : List UInt8) (i : Nat) : Prop := 0 ≤ hv (by' l (pos i)) ∧ 0 ≤ hv (by' l (pos i + 1))
def val (l : List UInt8) (i : Nat) : Nat := (hv (by' l (pos i))).toNat * 16 + (hv (by' l (pos i + 1))).toNat
def part (l : List UInt8) (k : Nat) : List Nat := (List.range 16).map fun j => if j < k then val l j else 0
theorem by_lt (l : List UInt8) (p : Nat) : by' l p < 256 := by unfold by'; exact UInt8.toNat_lt _
theorem hv_lt (n : Nat) : hv n < 16 := by unfold hv; split; omega; split; omega; split <;> omega
theorem hv_ge (n : Nat) : -1 ≤ hv n := by unfold hv; split; omega; split; omega; split <;> omega
theorem val_lt (l : List UInt8) (i : Nat) : val l i < 256 := by
  unfold val
  have := hv_lt (by' l (pos i)); have := hv_lt (by' l (pos i + 1)); omega
theorem part_is (l : List UInt8) (k : Nat) : isG (part l k) := ⟨by simp [part], fun x hx => by
  unfold part at hx
  obtain ⟨j, -, rfl⟩ := List.mem_map.1 hx
  split
  · exact val_lt _ _
  · omega⟩
theorem part_zero (l : List UInt8) : gcs (part l 0) = zGuid := rfl
theorem part_set (l : List UInt8) {k : Nat} (hk : k < 16) : (part l k).set k (val l k) = part l (k + 1) := by
  apply List.ext_getElem?
  intro j
  rw [List.getElem?_set, (part_is l k).1]
  unfold part
  rw [List.getElem?_map, List.getElem?_map]
  by_cases hj : j < 16
  · rw [List.getElem?_range hj]
    simp only [Option.map_some]
    by_cases e : k = j
    · subst e; rw [if_pos rfl, if_pos hk, if_pos (by omega)]
    · rw [if_neg e]
      congr 1
      by_cases h1 : j < k
      · rw [if_pos h1, if_pos (by omega)]
      · rw [if_neg h1, if_neg (by omega)]
  · rw [if_neg (by omega), List.getElem?_eq_none (by simp; omega)]; rfl
theorem ba_get {s : ByteArray} {p : Nat} (hp : p < s.data.toList.length) : s[p]? = some (s.data.toList.getD p 0) := by
  have h1 : p < s.size := by rw [Lib.size_eq] at *; exact hp
  rw [getElem?_pos s p h1]
  have e : s[p] = s.data.toList[p] := rfl
  rw [e, List.getD, List.getElem?_eq_getElem hp]; rfl
theorem orB : ((List.range 16).all fun a => (List.range 16).all fun b => IntKind.wrap .u8 (bits .or .i64 (IntKind.wrap .i64 ((a : Int) * (2 ^ Min.min ((4 : Int).toNat) 64))) (b : Int)) == ((a * 16 + b : Nat) : Int)) = true := by decide +kernel
theorem or_b {a b : Int} (ha : 0 ≤ a) (ha' : a < 16) (hb : 0 ≤ b) (hb' : b < 16) : IntKind.wrap .u8 (bits .or .i64 (IntKind.wrap .i64 (a * (2 ^ Min.min ((4 : Int).toNat) 64))) b) = ((a.toNat * 16 + b.toNat : Nat) : Int) := by
  obtain ⟨x, rfl⟩ := Int.eq_ofNat_of_zero_le ha
  obtain ⟨y, rfl⟩ := Int.eq_ofNat_of_zero_le hb
  have := List.all_eq_true.1 (List.all_eq_true.1 orB x (List.mem_range.2 (by omega))) y (List.mem_range.2 (by omega))
  simpa using this
def acc (l low : List UInt8) : Prop := l.length = 38 ∧ (∀ i < 16, ok l i) ∧ prL (part l 16) = low
theorem gfail {hh : Hp} {b0 : Nat} {v : Value} {C : Value → Hp → Prop} (B0 : hh b0 = some (.cells zGuid T.api_Guid (0, 0))) (hk : C (.tuple #[.agg zGuid, v]) hh) :
    True ∧ ((16 : Nat) = 16) ∧ (∀ v4 : Value, (v4 ∈ ([.int .u8 0, .int .u8 0, .int .u8 0, .int .u8 0, .int .u8 0, .int .u8 0, .int .u8 0, .int .u8 0, .int .u8 0, .int .u8 0, .int .u8 0, .int .u8 0, .int .u8 0, .int .u8 0, .int .u8 0, .int .u8 0] : List Value) → (Den.cellish v4) = Bool.true)) ∧ (Free hh ⟨b0, 0, none⟩ 16) ∧ (∃ cs2 : Array Value, (CellsAt (hh.setCells ⟨b0, 0, none⟩ zGuid) ⟨b0, 0, none⟩ 16 cs2) ∧ C (.tuple #[.agg cs2, v]) (hh.setCells ⟨b0, 0, none⟩ zGuid)) := by
  have e : hh.setCells ⟨b0, 0, none⟩ zGuid = hh := by rw [setCells_blk B0 rfl, put_id B0]
  refine ⟨trivial, rfl, by simp [cellish], free_blk B0 rfl, zGuid, ?_, ?_⟩
  · rw [e]; exact cellsAt_blk B0 rfl
  · rw [e]; exact hk
theorem gdone {hh : Hp} {b1 b0 : Nat} {g : List Nat} {v : Value} {C : Value → Hp → Prop} (hg : g.length = 16) (B1 : hh b1 = some (.cells (gcs g) T.api_Guid (0, 0))) (B0 : hh b0 = some (.cells zGuid T.api_Guid (0, 0))) (hk : C (.tuple #[.agg (gcs g), v]) (hh.put b0 (.cells (gcs g) T.api_Guid (0, 0)))) :
    (∃ cs4 : Array Value, (CellsAt hh ⟨b1, 0, none⟩ 16 cs4) ∧ (cs4.size = 16) ∧ (∀ v9 : Value, (v9 ∈ (Array.toList cs4 : List Value) → (Den.cellish v9) = Bool.true)) ∧ (Free hh ⟨b0, 0, none⟩ 16) ∧ (∃ cs5 : Array Value, (CellsAt (hh.setCells ⟨b0, 0, none⟩ cs4) ⟨b0, 0, none⟩ 16 cs5) ∧ C (.tuple #[.agg cs5, v]) (hh.setCells ⟨b0, 0, none⟩ cs4))) := by
  have hs : (gcs g).size = 16 := by rw [gcs_size, hg]
  refine ⟨_, cellsAt_blk B1 hs, hs, gcs_cellish, free_blk B0 rfl, ?_⟩
  rw [setCells_blk B0 (by rw [hs]; rfl)]
  exact ⟨_, cellsAt_blk put_self hs, hk⟩
def Low (s : ByteArray) (low : List UInt8) (h : Hp) : Prop := ∀ (h1 : Hp) (C : Value → Hp → Prop), Step [] h [] h1 → (∀ h', Step [] h1 [] h' → C (.string ⟨low.toArray⟩) h') → HC P strings_ToLower.n #[.string s] h1 C
theorem gParse_spec {s : ByteArray} {low : List UInt8} (hlow : s.data.toList.length = 38 → Low s low h)
    (k1 : acc s.data.toList low → ∀ h', Step [] h [] h' → K (.tuple #[.agg (gcs (part s.data.toList 16)), .int .i64 0]) h') (k0 : ¬ acc s.data.toList low → ∀ h', Step [] h [] h' → K (.tuple #[.agg zGuid, .int .i64 5]) h') :
    HC P guid_Parse.n #[.string s] h K := by
  generalize hl : s.data.toList = l at *
  have hsz : s.size = l.length := by rw [Lib.size_eq, hl]
  have sget : ∀ {p : Nat}, p < l.length → s[p]? = some (l.getD p 0) := fun {p} hp => by rw [ba_get (by rw [hl]; exact hp), hl]
  refine guid_Parse.hc ?_
  unfold guid_Parse
  intro b0 hb0 b1 hb1
  obtain ⟨n10, hb1'⟩ := put_none hb1
  have st : Step [] h [b1] ((h.put b0 (.cells zGuid T.api_Guid (0, 0))).put b1 (.cells zGuid T.api_Guid (0, 0))) := (Step.put (.inr hb0)).trans (Step.new hb1)
  have st0 : Step [] h [] ((h.put b0 (.cells zGuid T.api_Guid (0, 0))).put b1 (.cells zGuid T.api_Guid (0, 0))) := (Step.put (.inr hb0)).trans (Step.put (.inr hb1))
  have X0 : ((h.put b0 (.cells zGuid T.api_Guid (0, 0))).put b1 (.cells zGuid T.api_Guid (0, 0))) b0 = some (.cells zGuid T.api_Guid (0, 0)) := by rw [put_ne (Ne.symm n10), put_self]
  have X1 : ((h.put b0 (.cells zGuid T.api_Guid (0, 0))).put b1 (.cells zGuid T.api_Guid (0, 0))) b1 = some (.cells zGuid T.api_Guid (0, 0)) := put_self
  refine bcase_intro (fun hc => ?_) fun hc => ?_
  · have hne : l.length ≠ 38 := fun e => by rw [hsz, e] at hc; exact absurd hc (by decide)
    unfold guid_Parse.k0
    refine ⟨_, cellsAt_blk X1 rfl, rfl, by simp [cellish], free_blk X0 rfl, ?_⟩
    rw [setCells_blk X0 rfl, put_id X0]
    exact ⟨_, cellsAt_blk X0 rfl, k0 (fun a => hne a.1) _ st0⟩
  have h38 : l.length = 38 := by
    have : (s.size : Int) = 38 := by simpa using hc
    omega
  unfold guid_Parse.k18
  obtain ⟨I0, hI0⟩ : ∃ I0 : List Value → Hp → Prop, I0 = fun vs hh => ∃ (z : Int) (k : Nat), vs = [.int .i64 z, .int .i64 (at' k : Nat), .int .i64 (k : Int)] ∧ k ≤ 16 ∧ hh b1 = some (.cells (gcs (part l k)) T.api_Guid (0, 0)) ∧ hh b0 = some (.cells zGuid T.api_Guid (0, 0)) ∧ Step [] h [b1] hh ∧ ∀ i < k, ok l i := ⟨_, rfl⟩
  obtain ⟨x0, hx0⟩ : ∃ x0 : List Value → Hp → Nat, x0 = fun vs _ => match vs with | [_, _, .int _ i] => 16 - i.toNat | _ => 0 := ⟨_, rfl⟩
  refine ⟨I0, x0, by rw [hI0]; exact ⟨0, 0, rfl, by omega, by rw [part_zero]; exact X1, X0, st, by omega⟩, ?_⟩
  intro h0 z n1 n2 hin
  rw [hI0] at hin
  obtain ⟨z', k, he, hk16, B1, B0, stp, hok⟩ := hin
  cases he
  have st0' : Step [] h [] h0 := stp.forget0
  refine bcase_intro (fun hc => ?_) fun hc => ?_
  · have hc : k < 16 := by have := of_decide_eq_true hc; omega
    have hpl := pos_lt hc
    have bad : ¬ ok l k → guid_Parse.k1 h0 b0 K := fun hn => by
      unfold guid_Parse.k1
      exact gfail B0 (k0 (fun a => hn (a.2.1 k hc)) _ st0')
    have g1 := hv_lt (by' l (pos k)); have g2 := hv_lt (by' l (pos k + 1)); have g3 := hv_ge (by' l (pos k)); have g4 := hv_ge (by' l (pos k + 1))
    have w1 : IntKind.wrap .i64 ((k : Int) + 1) = ((k + 1 : Nat) : Int) := wrapN (by omega) (by omega)
    have nxt : ok l k → I0 [.int .i64 z, .int .i64 (at' (k + 1) : Nat), .int .i64 ((k + 1 : Nat) : Int)] (h0.setCell ⟨b1, k, none⟩ (.int .u8 (val l k : Nat))) := fun o => by
      rw [hI0]
      refine ⟨z, k + 1, rfl, by omega, ?_, by rw [setCell_ne (Ne.symm n10)]; exact B0, stp.trans (Step.setCell B1 (by simp)), fun i hi => ?_⟩
      · rw [setCell_blk B1, gcs_set, part_set l hc]
      · by_cases e : i = k
        · subst e; exact o
        · exact hok i (by omega)
    have cell : ∃ u0 : Value, h0.cell? ⟨b1, k, none⟩ = some u0 := ⟨_, by rw [cell_of B1, gcs_get]; rw [List.getElem?_eq_getElem (by rw [(part_is l k).1]; exact hc)]; rfl⟩
    have lesser : ∀ {m : Nat}, x0 [.int .i64 z, .int .i64 (at' (k + 1) : Nat), .int .i64 ((k + 1 : Nat) : Int)] (h0.setCell ⟨b1, k, none⟩ (.int .u8 (val l k : Nat))) < x0 [.int .i64 z, .int .i64 (m : Int), .int .i64 (k : Int)] h0 := fun {m} => by
      rw [hx0]
      show 16 - ((k + 1 : Nat) : Int).toNat < 16 - (k : Int).toNat
      omega
    unfold guid_Parse.k13
    refine dash_spec ⟨_, rfl, ?_⟩
    unfold guid_Parse.k12
    refine bcase_intro (fun hd => ?_) fun hd => ?_
    · have hp := pos_dash hd
      have a1 : IntKind.wrap .i64 ((at' k : Nat) + 1 : Int) = (pos k : Nat) := wrapN (by omega) (by omega)
      have a2 : IntKind.wrap .i64 ((pos k : Nat) + 1 : Int) = ((pos k + 1 : Nat) : Int) := wrapN (by omega) (by omega)
      have a3 : IntKind.wrap .i64 ((pos k : Nat) + 2 : Int) = (at' (k + 1) : Nat) := wrapN (by rw [at_succ]; omega) (by rw [at_succ]; omega)
      unfold guid_Parse.k6
      rw [a1, Int.toNat_natCast]
      refine ⟨by omega, _, sget (by omega), digit_spec (n := by' l (pos k)) (by_lt _ _) ⟨_, rfl, ?_⟩⟩
      unfold guid_Parse.k5
      rw [a1, a2, Int.toNat_natCast]
      refine ⟨by omega, _, sget (by omega), digit_spec (n := by' l (pos k + 1)) (by_lt _ _) ⟨_, rfl, ?_⟩⟩
      unfold guid_Parse.k4
      refine bcase_intro (fun e1 => bad fun o => ?_) fun e1 => ?_
      · have := of_decide_eq_true e1; have := o.1; omega
      unfold guid_Parse.k3
      refine bcase_intro (fun e2 => bad fun o => ?_) fun e2 => ?_
      · have := of_decide_eq_true e2; have := o.2; omega
      have e1 := of_decide_eq_false e1
      have e2 := of_decide_eq_false e2
      unfold guid_Parse.k2
      rw [a1, a3, w1, or_b (by omega) g1 (by omega) g2]
      simp only [Addr.add_mk, Int.toNat_natCast, Nat.mul_one, Nat.zero_add]
      exact ⟨by omega, by omega, by omega, cell, frozen_of B1, nxt ⟨by omega, by omega⟩, lesser⟩
    · have hp := pos_plain hd
      rw [← hp] at *
      have a2 : IntKind.wrap .i64 ((pos k : Nat) + 1 : Int) = ((pos k + 1 : Nat) : Int) := wrapN (by omega) (by omega)
      have a3 : IntKind.wrap .i64 ((pos k : Nat) + 2 : Int) = (at' (k + 1) : Nat) := wrapN (by rw [at_succ]; omega) (by rw [at_succ]; omega)
      unfold guid_Parse.k11
      rw [Int.toNat_natCast]
      refine ⟨by omega, _, sget (by omega), digit_spec (n := by' l (pos k)) (by_lt _ _) ⟨_, rfl, ?_⟩⟩
      unfold guid_Parse.k10
      rw [a2, Int.toNat_natCast]
      refine ⟨by omega, _, sget (by omega), digit_spec (n := by' l (pos k + 1)) (by_lt _ _) ⟨_, rfl, ?_⟩⟩
      unfold guid_Parse.k9
      refine bcase_intro (fun e1 => bad fun o => ?_) fun e1 => ?_
      · have := of_decide_eq_true e1; have := o.1; omega
      unfold guid_Parse.k8
      refine bcase_intro (fun e2 => bad fun o => ?_) fun e2 => ?_
      · have := of_decide_eq_true e2; have := o.2; omega
      have e1 := of_decide_eq_false e1
      have e2 := of_decide_eq_false e2
      unfold guid_Parse.k7
      rw [a3, w1, or_b (by omega) g1 (by omega) g2]
      simp only [Addr.add_mk, Int.toNat_natCast, Nat.mul_one, Nat.zero_add]
      exact ⟨by omega, by omega, by omega, cell, frozen_of B1, nxt ⟨by omega, by omega⟩, lesser⟩
  · have hc : k = 16 := by have := of_decide_eq_false hc; omega
    subst hc
    unfold guid_Parse.k17
    refine ⟨_, cellsAt_blk B1 (by rw [gcs_size, (part_is l 16).1]), gPrint_spec (part_is l 16) fun h6 s6 => ⟨_, rfl, ?_⟩⟩
    unfold guid_Parse.k16
    refine hlow h38 h6 _ (st0'.trans s6) fun h7 s7 => ⟨_, rfl, ?_⟩
    have S7 := s6.trans s7
    have B1 := S7.keepB0 B1
    have B0 := S7.keepB0 B0
    have hcmp : (ByteArray.toList (prS (part l 16)) == ByteArray.toList (⟨low.toArray⟩ : ByteArray)) = true ↔ prL (part l 16) = low := by
      rw [beq_iff_eq, ByteArray.toList_eq, ByteArray.toList_eq]
      unfold prS
      simp
    unfold guid_Parse.k15
    generalize (ByteArray.toList (prS (part l 16)) == ByteArray.toList (⟨low.toArray⟩ : ByteArray)) = d at hcmp ⊢
    refine bcase_intro (fun e => ?_) fun e => ?_
    · unfold guid_Parse.k1
      have hno : ¬ acc l low := fun a => by rw [hcmp.2 a.2.2] at e; cases e
      exact gfail B0 (k0 hno _ (st0'.trans S7))
    · unfold guid_Parse.k14
      have hacc : acc l low := ⟨h38, hok, hcmp.1 (by simpa using e)⟩
      refine gdone (part_is l 16).1 B1 B0 (k1 hacc _ ?_)
      exact ⟨fun k hk hn => by rw [put_ne (fun e => by subst e; exact hk hb0)]; exact (st0'.trans S7).keep k hk hn, fun k hk => by simp at hk, fun k hk => by unfold Hp.put; split <;> simp [(st0'.trans S7).dom k hk]⟩
end Go.Den.Mon
end

section
set_option linter.unusedVariables false
set_option maxRecDepth 100000
namespace Go.Den.Mon
open Go Go.Den
variable {h : Hp} {K : Value → Hp → Prop}
def spc (c : UInt8) : Bool := c == 33 || c == 58 || c == 64 || c == 46 || c == 92
def e1 (c : UInt8) : List UInt8 := if spc c then [92, c] else [c]
def esc (l : List UInt8) : List UInt8 := l.flatMap e1
def txt1 (r : Raw) : List UInt8 := if r.kind = 1 then 33 :: esc r.txt.data.toList else if r.kind = 2 then 58 :: prL r.id else if r.kind = 3 then 64 :: hf r.H 16 else [46]
def txtOf (l : List Raw) : List UInt8 := l.flatMap txt1
theorem esc_take {l : List UInt8} {j : Nat} {c : UInt8} (hc : l[j]? = some c) : esc (l.take (j + 1)) = esc (l.take j) ++ e1 c := by
  rw [List.take_add_one, hc]
  simp [esc]
theorem esc_len {l : List UInt8} : (esc l).length ≤ 2 * l.length := by
  induction l with
  | nil => simp [esc]
  | cons c l ih =>
    have : (e1 c).length ≤ 2 := by unfold e1; split <;> simp
    simp only [esc, List.flatMap_cons, List.length_append, List.length_cons] at ih ⊢
    omega
theorem prL_len {g : List Nat} : (prL g).length ≤ 100 := by
  have := pr_len (g := g) 16
  unfold prL; simp; omega
theorem txt1_len {r : Raw} (e : rpart r = true) : (txt1 r).length ≤ 600 := by
  unfold txt1
  split
  · rename_i hk
    unfold rpart at e
    rw [if_pos hk] at e
    have h2 := (of_decide_eq_true e).2.2.2
    have := esc_len (l := r.txt.data.toList)
    rw [Lib.size_eq] at h2
    simp; omega
  · split
    · have := prL_len (g := r.id); simp; omega
    · split
      · simp [hf_len]
      · simp
theorem txtOf_len {l : List Raw} (e : ∀ r ∈ l, rpart r = true) : (txtOf l).length ≤ 600 * l.length := by
  induction l with
  | nil => simp [txtOf]
  | cons r l ih =>
    have h1 := txt1_len (e r (by simp))
    have h2 := ih fun r hr => e r (by simp [hr])
    simp only [txtOf, List.flatMap_cons, List.length_append, List.length_cons] at h2 ⊢
    omega
theorem ba_some {s : ByteArray} {p : Nat} {c : UInt8} (hp : s.data.toList[p]? = some c) : s[p]? = some c := by
  have hl := (List.getElem?_eq_some_iff.1 hp).1
  rw [ba_get hl, List.getD_eq_getElem?_getD, hp]; rfl
theorem toU8 (c : UInt8) : c.toNat.toUInt8 = c := by simp
abbrev signs : ByteArray := ⟨#[33, 58, 64, 46]⟩
theorem idx_signs : ((List.range 256).all fun n => decide (0 ≤ Lib.indexByte signs.data.toList n.toUInt8) == (spc n.toUInt8 && !(n == 92))) = true := by decide +kernel
theorem idx_sign (c : UInt8) : decide (0 ≤ Lib.indexByte signs.data.toList c) = (spc c && !(c.toNat == 92)) := by
  have := List.all_eq_true.1 idx_signs c.toNat (List.mem_range.2 (UInt8.toNat_lt c))
  rw [beq_iff_eq, toU8] at this
  exact this
structure PB (h2 : Hp) (b1 l0 b2 : Nat) (x : Raw) (R0 : Rec) (o0 : List Nat) (bs : List UInt8) (o : List Nat) (hh : Hp) : Prop where
  B : BldAt hh b1 bs o
  L : hh l0 = some R0.busy
  M : MB hh b2 x
  nl : l0 ∉ o
  nb : b2 ∉ o
  lb : l0 ≠ b1
  b2b : b2 ≠ b1
  st : Step (o0 ++ [b1, l0]) h2 (o ++ [b1, l0]) hh
section
variable {h2 hh : Hp} {b1 l0 b2 : Nat} {x : Raw} {R0 : Rec} {o0 o : List Nat} {bs : List UInt8} {C : Value → Hp → Prop}
theorem PB.next {h' : Hp} {o' : List Nat} {bs' : List UInt8} (w : PB h2 b1 l0 b2 x R0 o0 bs o hh) (B' : BldAt h' b1 bs' o') (s : Step (o ++ [b1]) hh (o' ++ [b1]) h') : PB h2 b1 l0 b2 x R0 o0 bs' o' h' := by
  have stay : ∀ q, hh q ≠ none → q ∉ o → q ≠ b1 → q ∉ o' := fun q hq h1 h2 hm => by
    rcases s.own q (by simp [hm]) with z | z
    · simp at z; rcases z with z | z
      · exact h1 z
      · exact h2 z
    · exact hq z
  refine ⟨B', ?_, ?_, stay l0 (by rw [w.L]; simp) w.nl w.lb, stay b2 (by rw [w.M]; simp) w.nb w.b2b, w.lb, w.b2b, ?_⟩
  · rw [s.keep l0 (by rw [w.L]; simp) (by simp [w.nl, w.lb])]; exact w.L
  · show _ = _
    rw [s.keep b2 (by rw [w.M]; simp) (by simp [w.nb, w.b2b])]; exact w.M
  · exact w.st.trans (by simpa using s.frame [l0])
theorem PB.pure {h' : Hp} (w : PB h2 b1 l0 b2 x R0 o0 bs o hh) (s : Step [] hh [] h') : PB h2 b1 l0 b2 x R0 o0 bs o h' :=
  w.next (w.B.step s (by simp) (by simp)) (by simpa using s.frame (o ++ [b1]))
theorem PB.byte (w : PB h2 b1 l0 b2 x R0 o0 bs o hh) (c : UInt8) (hl : bs.length < 1000000) (hk : ∀ h' o', PB h2 b1 l0 b2 x R0 o0 (bs ++ [c]) o' h' → C .nilIface h') : HC P strings_Builder_WriteByte.n #[.pointer (some ⟨b1, 0, none⟩), .int .u8 (c.toNat : Int)] hh C :=
  writeByte_spec w.B (UInt8.toNat_lt c) hl fun h' o' B' s => hk h' o' (w.next (by rw [toU8] at B'; exact B') s)
theorem PB.str (w : PB h2 b1 l0 b2 x R0 o0 bs o hh) (s : ByteArray) (hl : bs.length + s.size < 1000000) (hk : ∀ h' o', PB h2 b1 l0 b2 x R0 o0 (bs ++ s.data.toList) o' h' → C (.tuple #[.int .i64 (s.size : Int), .nilIface]) h') : HC P strings_Builder_WriteString.n #[.pointer (some ⟨b1, 0, none⟩), .string s] hh C :=
  writeString_spec w.B hl fun h' o' B' s' => hk h' o' (w.next B' s')
end
theorem prText {h2 hh : Hp} {b1 l0 b2 : Nat} {x : Raw} {R0 : Rec} {o0 o : List Nat} {bs : List UInt8} {K0 : Value → Hp → Prop} (k : x.Ok) (w : PB h2 b1 l0 b2 x R0 o0 bs o hh) (hl : bs.length + 2 * x.txt.data.toList.length < 900000)
    (hk : ∀ h' o', PB h2 b1 l0 b2 x R0 o0 (bs ++ esc x.txt.data.toList) o' h' → K0 (.bool true) (h'.put l0 R0.ready)) : moniker_Print.k8 hh b2 b1 l0 R0 K0 := by
  unfold moniker_Print.k8
  simp only [Addr.add_mk, Nat.zero_add]
  obtain ⟨I0, hI0⟩ : ∃ I0 : List Value → Hp → Prop, I0 = fun vs h' => ∃ (j : Nat) (o' : List Nat), vs = [.int .i64 (j : Int)] ∧ j ≤ x.txt.data.toList.length ∧ PB h2 b1 l0 b2 x R0 o0 (bs ++ esc (x.txt.data.toList.take j)) o' h' := ⟨_, rfl⟩
  obtain ⟨x0, hx0⟩ : ∃ x0 : List Value → Hp → Nat, x0 = fun vs _ => match vs with | [.int _ i] => x.txt.data.toList.length - i.toNat | _ => 0 := ⟨_, rfl⟩
  have es : x.txt.size = x.txt.data.toList.length := Lib.size_eq _
  refine ⟨_, w.M.txt k, I0, x0, by rw [hI0]; exact ⟨0, o, rfl, by omega, by simpa [esc] using w⟩, ?_⟩
  intro h4 n3 hin
  rw [hI0] at hin
  obtain ⟨j, o', he, hj, w4⟩ := hin
  have en : n3 = (j : Int) := by cases he; rfl
  clear he
  subst en
  refine bcase_intro (fun hc => ?_) fun hc => ?_
  · have hc : j < x.txt.data.toList.length := by have := of_decide_eq_true hc; omega
    obtain ⟨c, hcc⟩ : ∃ c, x.txt.data.toList[j]? = some c := ⟨_, List.getElem?_eq_getElem hc⟩
    have ll : (bs ++ esc (x.txt.data.toList.take j)).length < 900000 := by
      have := esc_len (l := x.txt.data.toList.take j)
      rw [List.length_take] at this
      rw [List.length_append]; omega
    have et := esc_take hcc
    have fin : ∀ h6 o6, PB h2 b1 l0 b2 x R0 o0 (bs ++ esc (x.txt.data.toList.take j) ++ e1 c) o6 h6 → moniker_Print.k0 I0 (j : Int) h6 x0 h4 := fun h6 o6 w6 => by
      unfold moniker_Print.k0
      have hj2 := k.txt
      rw [wrapN (m := j + 1) (by simp) (by omega)]
      refine ⟨?_, ?_⟩
      · rw [hI0]
        exact ⟨j + 1, o6, rfl, by omega, by rw [et, ← List.append_assoc]; exact w6⟩
      · rw [hx0]
        show x.txt.data.toList.length - ((j + 1 : Nat) : Int).toNat < x.txt.data.toList.length - (j : Int).toNat
        omega
    -- the two bytes
    have two : spc c = true → HC P strings_Builder_WriteByte.n #[.pointer (some ⟨b1, 0, none⟩), .int .u8 92] h4 (fun v5 h5 => (∃ v6 : Value, (v5 = v6) ∧ (∃ s2 : ByteArray, ((h5.cell? ⟨b2, 17, none⟩) = (some (.string s2))) ∧ (moniker_Print.k1 (j : Int) s2 b1 h5 I0 x0 h4)))) := fun hs => by
      refine w4.byte 92 (by omega) fun h5 o5 w5 => ⟨_, rfl, _, w5.M.txt k, ?_⟩
      unfold moniker_Print.k1
      rw [Int.toNat_natCast]
      refine ⟨by omega, c, ba_some hcc, w5.byte c (by simp at ll ⊢; omega) fun h6 o6 w6 => ⟨_, rfl, fin h6 o6 ?_⟩⟩
      have : e1 c = [92, c] := by unfold e1; rw [if_pos hs]
      rw [this]
      simpa using w6
    unfold moniker_Print.k7
    simp only [Addr.add_mk, Nat.zero_add]
    rw [Int.toNat_natCast]
    refine ⟨_, w4.M.txt k, by omega, c, ba_some hcc, bcase_intro (fun d => ?_) fun d => ?_⟩
    · unfold moniker_Print.k2
      simp only [Addr.add_mk, Nat.zero_add]
      refine two ?_
      have d : (c.toNat : Int) = 92 := by simpa using d
      have : c = 92 := by rw [← toU8 c, show c.toNat = 92 by omega]; rfl
      rw [this]; rfl
    · have d : ¬ c.toNat = 92 := fun q => by rw [q] at d; simp at d
      unfold moniker_Print.k6
      refine sIndex_spec ⟨_, rfl, ?_⟩
      rw [toU8]
      have ix := idx_sign c
      rw [show (c.toNat == 92) = false by simpa using d, Bool.not_false, Bool.and_true] at ix
      unfold moniker_Print.k5
      rw [ix]
      refine bcase_intro (fun hs => ?_) fun hs => ?_
      · unfold moniker_Print.k3
        simp only [Addr.add_mk, Nat.zero_add]
        exact two hs
      · unfold moniker_Print.k4
        simp only [Addr.add_mk, Nat.zero_add]
        rw [Int.toNat_natCast]
        refine ⟨_, w4.M.txt k, by omega, c, ba_some hcc, w4.byte c (by omega) fun h6 o6 w6 => ⟨_, rfl, fin h6 o6 ?_⟩⟩
        have : e1 c = [c] := by unfold e1; rw [if_neg (by simp [hs])]
        rw [this]; exact w6
  · have hc : j = x.txt.data.toList.length := by have := of_decide_eq_false hc; omega
    rw [hc, List.take_length] at w4
    exact ⟨w4.L, hk h4 o' w4⟩
end Go.Den.Mon
end

section
set_option linter.unusedVariables false
set_option maxRecDepth 100000
namespace Go.Den.Mon
open Go Go.Den
variable {h : Hp} {K : Value → Hp → Prop}
theorem hf16 {n d : Nat} (hd : d ≤ 16) (hn : n < 16 ^ d) : Lib.repeatL [(48 : UInt8)] (16 - d) ++ hf n d = hf n 16 := by
  have := hf_pad hn (e := 16 - d)
  rw [show d + (16 - d) = 16 by omega] at this
  rw [this, repL]
theorem prBody {g h2 : Hp} {b1 l0 : Nat} {x : Raw} {bs : List UInt8} {o : List Nat} {R0 : Rec} {K0 : Value → Hp → Prop} (en : Env g) (sg : Step [] g (o ++ [b1, l0]) h2) (k : x.Ok) (rp : rpart x = true) (B : BldAt h2 b1 bs o) (hl : h2 l0 = some R0.ready) (nl0 : l0 ∉ o) (nlb : l0 ≠ b1) (hn : bs.length < 100000)
    (hk : ∀ o' h', BldAt h' b1 (bs ++ txt1 x) o' → h' l0 = some R0.ready → l0 ∉ o' → Step (o ++ [b1, l0]) h2 (o' ++ [b1, l0]) h' → K0 (.bool true) h') :
    ∀ b2 : Nat, h2 b2 = none → ((mc x).toArray.size = 20) ∧ (∀ v2 : Value, (v2 ∈ (Array.toList (mc x).toArray : List Value) → (Den.cellish v2) = Bool.true)) ∧ (Free (h2.put b2 (.cells zMon T.api_Moniker (0, 0))) ⟨b2, 0, none⟩ 20) ∧ ((((h2.put b2 (.cells zMon T.api_Moniker (0, 0))).setCells ⟨b2, 0, none⟩ (mc x).toArray) l0) = (some R0.ready)) ∧
      (∃ n1 : Int, (((((h2.put b2 (.cells zMon T.api_Moniker (0, 0))).setCells ⟨b2, 0, none⟩ (mc x).toArray).put l0 R0.busy).cell? ((⟨b2, 0, none⟩ : Addr).add 0)) = (some (.int .i64 n1))) ∧ ((0 : Int) ≤ (IntKind.wrap .i64 (n1 - 1))) ∧ (∃ b3 : UInt8, (((⟨#[33, 58, 64, 46]⟩ : ByteArray)[(IntKind.wrap .i64 (n1 - 1)).toNat]?) = (some b3)) ∧ HC P strings_Builder_WriteByte.n #[.pointer (some ⟨b1, 0, none⟩), .int .u8 (b3.toNat : Int)] (((h2.put b2 (.cells zMon T.api_Moniker (0, 0))).setCells ⟨b2, 0, none⟩ (mc x).toArray).put l0 R0.busy)
        (fun v3 h3 => (∃ v4 : Value, (v3 = v4) ∧ (∃ n2 : Int, ((h3.cell? ((⟨b2, 0, none⟩ : Addr).add 0)) = (some (.int .i64 n2))) ∧ (moniker_Print.k16 n2 h3 b2 b1 l0 R0 K0)))))) := by
  intro b2 hb2
  have om : ∀ q ∈ o, h2 q ≠ none := by
    obtain ⟨_, _, _, _, _, s, _, _⟩ := B
    exact s.mem
  have n20 : b2 ≠ l0 := fun q => by rw [q, hl] at hb2; cases hb2
  have n2b : b2 ≠ b1 := fun q => B.mem (by rw [← q]; exact hb2)
  have n2o : b2 ∉ o := fun q => om b2 q hb2
  obtain ⟨X, hX⟩ : ∃ X, X = (h2.put b2 (.cells (mc x).toArray T.api_Moniker (0, 0))).put l0 R0.busy := ⟨_, rfl⟩
  have e2 := newM k hb2
  have Xl : X l0 = some R0.busy := by rw [hX, put_self]
  have X2 : MB X b2 x := by rw [hX]; show _ = _; rw [put_ne n20, put_self]
  have sX : Step (b2 :: [l0]) h2 (b2 :: [l0]) X := by rw [hX]; exact (Step.put (.inl (by simp))).trans (Step.put (.inl (by simp)))
  have SX : Step (o ++ [b1, l0]) h2 (o ++ [b1, l0]) X := by rw [hX]; exact (Step.put (.inr hb2)).trans (Step.put (.inl (by simp)))
  have XB : BldAt X b1 bs o := B.step sX (by simp [Ne.symm n2b, Ne.symm nlb]) fun q hq => by
    simp only [List.mem_cons, List.not_mem_nil, or_false, not_or]
    exact ⟨fun z => n2o (by rw [← z]; exact hq), fun z => nl0 (by rw [← z]; exact hq)⟩
  rw [e2, ← hX]
  have w : PB h2 b1 l0 b2 x R0 o bs o X := ⟨XB, Xl, X2, nl0, n2o, nlb, n2b, SX⟩
  have fin : ∀ h' o', PB h2 b1 l0 b2 x R0 o (bs ++ txt1 x) o' h' → K0 (.bool true) (h'.put l0 R0.ready) := fun h' o' w' => by
    refine hk o' _ (w'.B.step (own := [l0]) (Step.put (.inl (by simp))) (by simp [Ne.symm nlb]) fun q hq => ?_) put_self w'.nl (w'.st.trans (Step.put (.inl (by simp))))
    simp only [List.mem_cons, List.not_mem_nil, or_false]
    exact fun z => w'.nl (by rw [← z]; exact hq)
  have lx : bs.length + (txt1 x).length < 200000 := by have := txt1_len rp; omega
  have one : ∀ (c : UInt8), (∀ h3 o3, PB h2 b1 l0 b2 x R0 o (bs ++ [c]) o3 h3 → moniker_Print.k16 x.kind h3 b2 b1 l0 R0 K0) → HC P strings_Builder_WriteByte.n #[.pointer (some ⟨b1, 0, none⟩), .int .u8 (c.toNat : Int)] X
        (fun v3 h3 => (∃ v4 : Value, (v3 = v4) ∧ (∃ n2 : Int, ((h3.cell? ((⟨b2, 0, none⟩ : Addr).add 0)) = (some (.int .i64 n2))) ∧ (moniker_Print.k16 n2 h3 b2 b1 l0 R0 K0)))) := fun c hc =>
    w.byte c (by omega) fun h3 o3 w3 => ⟨_, rfl, _, by rw [Addr.add_mk]; exact w3.M.kind, hc h3 o3 w3⟩
  refine ⟨by simpa using mc_len k, mc_cellish, freeM, by rw [put_ne (Ne.symm n20)]; exact hl, x.kind, by rw [Addr.add_mk]; exact X2.kind, ?_⟩
  rcases rp_kind rp with q | q | q | q
  · have et : txt1 x = 33 :: esc x.txt.data.toList := by unfold txt1; rw [if_pos q]
    rw [et] at fin
    have hz : x.txt.data.toList.length ≤ 256 := by
      unfold rpart at rp
      rw [if_pos q] at rp
      have := (of_decide_eq_true rp).2.2.2
      rwa [Lib.size_eq] at this
    refine ⟨by rw [q]; decide +kernel, 33, by rw [q]; decide +kernel, one 33 fun h3 o3 w3 => ?_⟩
    unfold moniker_Print.k16
    refine bcT (by rw [q]; rfl) ?_
    refine prText k w3 (by rw [List.length_append, List.length_singleton]; omega) fun h' o' w' => fin h' o' ?_
    simpa using w'
  · have et : txt1 x = 58 :: prL x.id := by unfold txt1; rw [if_neg (by omega), if_pos q]
    rw [et] at fin
    refine ⟨by rw [q]; decide +kernel, 58, by rw [q]; decide +kernel, one 58 fun h3 o3 w3 => ?_⟩
    unfold moniker_Print.k16
    refine bcF (by rw [q]; rfl) ?_
    unfold moniker_Print.k15
    refine bcT (by rw [q]; rfl) ?_
    unfold moniker_Print.k10
    rw [Addr.add_mk]
    refine ⟨_, w3.M.id k, gPrint_spec k.id fun h4 s4 => ⟨_, rfl, ?_⟩⟩
    have w4 := w3.pure s4
    unfold moniker_Print.k9
    have := prL_len (g := x.id)
    refine w4.str (prS x.id) (by unfold prS; rw [Lib.size_eq]; simp; omega) fun h5 o5 w5 => ⟨_, _, rfl, w5.L, fin h5 o5 ?_⟩
    simpa [prS] using w5
  · have et : txt1 x = 64 :: hf x.H 16 := by unfold txt1; rw [if_neg (by omega), if_neg (by omega), if_pos q]
    rw [et] at fin
    refine ⟨by rw [q]; decide +kernel, 64, by rw [q]; decide +kernel, one 64 fun h3 o3 w3 => ?_⟩
    unfold moniker_Print.k16
    refine bcF (by rw [q]; rfl) ?_
    unfold moniker_Print.k15
    refine bcF (by rw [q]; rfl) ?_
    unfold moniker_Print.k14
    refine bcT (by rw [q]; rfl) ?_
    unfold moniker_Print.k13
    rw [Addr.add_mk]
    refine ⟨_, w3.M.H k, fmt_spec (en.step (sg.trans w3.st)) k.H fun d h4 d1 d2 d3 s4 => ⟨_, rfl, ?_⟩⟩
    have w4 := w3.pure s4
    have sz : ((⟨(hf x.H d).toArray⟩ : ByteArray).size : Int) = (d : Int) := by rw [Lib.size_eq]; simp [hf_len]
    unfold moniker_Print.k12
    rw [sz, wrapN (m := 16 - d) (by omega) (by omega)]
    refine repeat_spec (by omega) fun h5 s5 => ⟨_, rfl, ?_⟩
    have w5 := w4.pure s5
    have cat : (⟨(Array.mk (Array.toList (ByteArray.data ⟨(Lib.repeatL [(48 : UInt8)] (16 - d)).toArray⟩) ++ Array.toList (ByteArray.data ⟨(hf x.H d).toArray⟩)))⟩ : ByteArray) = ⟨(hf x.H 16).toArray⟩ := by
      rw [← hf16 d2 d3]
    unfold moniker_Print.k11
    rw [cat]
    refine ⟨?_, w5.str _ (by rw [Lib.size_eq]; simp [hf_len]; omega) fun h6 o6 w6 => ⟨_, _, rfl, w6.L, fin h6 o6 ?_⟩⟩
    · rw [Lib.size_eq, Lib.size_eq]
      simp [hf_len, repL]; omega
    · simpa using w6
  · have et : txt1 x = [46] := by unfold txt1; rw [if_neg (by omega), if_neg (by omega), if_neg (by omega)]
    rw [et] at fin
    refine ⟨by rw [q]; decide +kernel, 46, by rw [q]; decide +kernel, one 46 fun h3 o3 w3 => ?_⟩
    unfold moniker_Print.k16
    refine bcF (by rw [q]; rfl) ?_
    unfold moniker_Print.k15
    refine bcF (by rw [q]; rfl) ?_
    unfold moniker_Print.k14
    exact bcF (by rw [q]; rfl) ⟨w3.L, fin h3 o3 w3⟩
theorem Print_spec (en : Env h) {x : Raw} {rows : List Raw} {m : Mon} (t : Top h x rows m) (hk : rright x rows = true → ∀ h', Step [] h [] h' → K (.tuple #[.string ⟨(txtOf (partsOf x rows)).toArray⟩, .int .i64 0]) h')
    (hx : rright x rows = false → ∀ h', Step [] h [] h' → K (.tuple #[.string (⟨#[]⟩ : ByteArray), .int .i64 5]) h') : HC P moniker_Print.n #[.agg (mc x).toArray] h K := by
  have k := t.deep.ok
  refine moniker_Print.hc ?_
  unfold moniker_Print
  intro b0 hb0
  have S0 : Step [] h [] (h.put b0 (.cells (mc x).toArray T.api_Moniker (0, 0))) := Step.put (.inr hb0)
  have M0 : MB (h.put b0 (.cells (mc x).toArray T.api_Moniker (0, 0))) b0 x := put_self
  refine ⟨_, M0.all k, Check_spec (t.step S0) fun h0 s0 => ⟨_, rfl, ?_⟩⟩
  have S0 := S0.trans s0
  have M0 := M0.step s0
  unfold moniker_Print.k20
  cases hr : rright x rows with
  | false =>
    rw [if_neg (by simp)]
    exact bcT rfl (hx hr h0 S0)
  | true =>
    rw [if_pos rfl]
    refine bcF rfl ?_
    unfold moniker_Print.k19
    intro b1 hb1
    have n01 : b0 ≠ b1 := fun q => by rw [← q, M0] at hb1; cases hb1
    refine ⟨_, (show MB _ b0 x by show _ = _; rw [put_ne n01]; exact M0).all k, ?_⟩
    refine moniker_Parts.hc ?_
    unfold moniker_Parts
    intro bF hbF
    refine ⟨_, _, _, rfl, ?_⟩
    unfold moniker_Print.k18
    refine trueD_intro (by kernel_rfl) ?_
    intro l0 R0 hl0 hyall
    obtain ⟨H1, hH1⟩ : ∃ H1, H1 = (((h0.put b1 (.cells #[.pointer none, .slice none 0 0] T.strings_Builder (0, 0))).put bF (.cells (mc x).toArray T.api_Moniker (0, 0))).put l0 R0.ready) := ⟨_, rfl⟩
    have nlF : l0 ≠ bF := fun q => by rw [q, put_self] at hl0; cases hl0
    have nF1 : bF ≠ b1 := fun q => by rw [q, put_self] at hbF; cases hbF
    have nl1 : l0 ≠ b1 := fun q => by rw [q, put_ne (Ne.symm nF1), put_self] at hl0; cases hl0
    have fl : h0 l0 = none := by rw [put_ne nlF, put_ne nl1] at hl0; exact hl0
    have fF : h0 bF = none := by rw [put_ne nF1] at hbF; exact hbF
    have S1 : Step [] h0 [b1, l0] H1 := by
      rw [hH1]
      exact (((Step.put (.inr hb1)).trans (Step.put (.inr hbF))).trans (Step.put (.inr hl0))).weak (fun _ z => z) fun q hq => by
        simp at hq
        rcases hq with rfl | rfl
        · exact .inr (.inr hb1)
        · exact .inr (.inr fl)
    have HF : MB H1 bF x := by rw [hH1]; show _ = _; rw [put_ne (Ne.symm nlF), put_self]
    have HL : H1 l0 = some R0.ready := by rw [hH1, put_self]
    have HB : BldAt H1 b1 [] [] := by
      have B0 : BldAt (h0.put b1 (.cells #[.pointer none, .slice none 0 0] T.strings_Builder (0, 0))) b1 [] [] := BldAt.new hb1
      rw [hH1]
      exact B0.step (own := [bF, l0]) ((Step.put (.inl (by simp))).trans (Step.put (.inl (by simp)))) (by simp [Ne.symm nF1, Ne.symm nl1]) (by simp)
    have T0 : Top h0 x rows m := t.step S0
    have rps : ∀ r ∈ prt x rows, rpart r = true := by rw [prt_right hr]; exact parts_rp hr
    have pl : (prt x rows).length ≤ 64 := by rw [prt_right hr]; exact parts_len t hr
    have tl : ∀ i, (txtOf ((prt x rows).take i)).length ≤ 40000 := fun i => by
      have := txtOf_len (l := (prt x rows).take i) fun r hr => rps r (List.mem_of_mem_take hr)
      rw [List.length_take] at this
      omega
    refine partsIt_spec (l0 := l0) (bF := bF) (h := ((h0.put b1 (.cells #[.pointer none, .slice none 0 0] T.strings_Builder (0, 0))).put bF (.cells (mc x).toArray T.api_Moniker (0, 0))).put l0 R0.ready) (m := m) (by rw [← hH1]; exact T0.step S1.forget0) (by rw [← hH1]; exact HF)
      (fun i hh => ∃ o1, BldAt hh b1 (txtOf ((prt x rows).take i)) o1 ∧ hh l0 = some R0.ready ∧ l0 ∉ o1 ∧ Step [b1, l0] H1 (o1 ++ [b1, l0]) hh) (fun _ => False) ?_ ?_ ?_ ?_ ?_ (fun _ z => z.elim)
    · rw [← hH1]
      exact ⟨[], by simpa [txtOf] using HB, HL, by simp, Step.refl _ _⟩
    · rintro i hh hh' ⟨o1, g1, g2, g3, g4⟩ st
      exact ⟨o1, g1.step st (by simp) (by simp), by rw [st.keep l0 (by rw [g2]; simp) (by simp)]; exact g2, g3, g4.trans (by simpa using st.frame (o1 ++ [b1, l0]))⟩
    · rintro i hh ⟨o1, g1, g2, g3, g4⟩
      rw [← hH1]
      refine ⟨g4.keep bF (by rw [HF]; simp) (by simp [nF1, Ne.symm nlF]), fun q eq en hq => g4.keep _ hq ?_⟩
      have d := T0.blk q eq en
      have d1 : q.block ≠ b1 := fun z => d (by rw [z]; exact hb1)
      have d2 : q.block ≠ l0 := fun z => d (by rw [z]; exact fl)
      simp [d1, d2]
    · rintro i r hh C hi ⟨o1, g1, g2, g3, g4⟩ yes no
      have mr := List.mem_of_getElem? hi
      refine hyall (mc r).toArray hh C g2 ?_
      refine prBody (g := h) en (S0.trans (S1.trans g4)) (prt_ok T0 r mr) (rps r mr) g1 g2 g3 nl1 (by have := tl i; omega) fun o' h' q1 q2 q3 q4 => yes h' ⟨o', ?_, q2, q3, g4.trans q4⟩
      rw [List.take_add_one, hi]
      simpa [txtOf] using q1
    · rintro hh ⟨o1, g1, g2, g3, g4⟩
      rw [List.take_length] at g1
      unfold moniker_Print.k17
      refine .inl ⟨g2, ?_⟩
      have B' : BldAt (hh.put l0 R0.over) b1 (txtOf (prt x rows)) o1 := g1.step (own := [l0]) (Step.put (.inl (by simp))) (by simp [Ne.symm nl1]) fun q hq => by
        simp only [List.mem_cons, List.not_mem_nil, or_false]
        exact fun z => g3 (by rw [← z]; exact hq)
      refine bldString_spec B' (by have := tl (prt x rows).length; rw [List.take_length] at this; omega) fun h' o' s' => ⟨_, rfl, ?_⟩
      rw [prt_right hr]
      refine hk hr h' ?_
      have st : Step [] h0 (o1 ++ [b1] ++ [l0]) (hh.put l0 R0.over) := by simpa using (S1.trans g4).trans (Step.put (.inl (by simp)))
      exact (S0.trans (st.trans (s'.frame [l0]))).forget0
end Go.Den.Mon
end

section
set_option linter.unusedVariables false
set_option maxRecDepth 100000
namespace Go.Den.Mon
open Go Go.Den
variable {h : Hp} {K : Value → Hp → Prop}
structure RP (h : Hp) (bs : List UInt8) (a : Option Addr) (c : Nat) (o : List Nat) (hh : Hp) : Prop where
  sl : SlAt hh T.uint8 1 AnyV a bs.length c (bvs bs) o
  st : Step [] h o hh
theorem RP.byte {hh : Hp} {bs : List UInt8} {a : Option Addr} {c b : Nat} {o : List Nat} {C : Value → Hp → Prop} (w : RP h bs a c o hh) (hb : hh b = none) (x : UInt8) (hl : bs.length < 1000000)
    (hk : ∀ a' c' o' h', RP h (bs ++ [x]) a' c' o' h' → C (.slice a' (bs ++ [x]).length c') h') :
    wpSem P (Builtin.append_ #[T.sl_uint8, T.sl_uint8] T.sl_uint8 #[.slice a bs.length c, .slice (some ⟨b, 0, none⟩) 1 1]) C (hh.put b (.cells #[.int .u8 (x.toNat : Int)] T.uint8 (0, 0))) := by
  refine pushV_wp slU8 (fun _ _ _ _ _ _ => trivial) w.sl hb (by omega) rfl fun a' c' o' h' s' st' => ?_
  have e : bvs bs ++ [Value.int .u8 (x.toNat : Int)] = bvs (bs ++ [x]) := by rw [bvs_app]; rfl
  rw [e] at s'
  have := hk a' c' o' h' ⟨by rw [List.length_append, List.length_singleton]; exact s', w.st.trans st'⟩
  rw [List.length_append, List.length_singleton] at this
  exact this
theorem RP.str {hh : Hp} {bs : List UInt8} {a : Option Addr} {c : Nat} {o : List Nat} {C : Value → Hp → Prop} {s : ByteArray} (w : RP h bs a c o hh) (hl : bs.length + s.size < 1000000)
    (hk : ∀ a' c' o' h', RP h (bs ++ s.data.toList) a' c' o' h' → C (.slice a' (bs ++ s.data.toList).length c') h') :
    wpSem P (Builtin.append_ #[T.sl_uint8, T.string] T.sl_uint8 #[.slice a bs.length c, .string s]) C hh := by
  have es : s.size = s.data.toList.length := Lib.size_eq _
  refine append_str (P := P) (Z := AnyV) (n := s.size) (cs := bvs s.data.toList) slU8 (by kernel_rfl) w.sl (fun _ _ _ _ _ _ => trivial) rfl rfl rfl (by omega) fun a' c' o' h' s1 _ _ st => ?_
  have := hk a' c' o' h' ⟨by rw [List.length_append, bvs_app, ← es]; exact s1, w.st.trans st⟩
  rw [List.length_append, ← es] at this
  exact this
theorem RP.pure {hh h' : Hp} {bs : List UInt8} {a : Option Addr} {c : Nat} {o : List Nat} (w : RP h bs a c o hh) (s : Step [] hh [] h') : RP h bs a c o h' :=
  ⟨w.sl.keep fun q hq => s.keep q (w.sl.mem q hq) (by simp), w.st.trans (by simpa using s.frame o)⟩
def pre (n i : Nat) : List UInt8 := (List.range i).map fun j => hexc (n / 16 ^ (15 - j) % 16)
theorem shr {n i : Nat} (hi : i ≤ 15) : Int.fdiv (n : Int) (2 ^ Min.min ((IntKind.wrap .u64 (60 - 4 * (i : Int))).toNat) 64) = ((n / 16 ^ (15 - i) : Nat) : Int) := by
  rw [wrapU64 (m := 60 - 4 * i) (by omega) (by omega), Int.toNat_natCast, show Min.min (60 - 4 * i) 64 = 4 * (15 - i) by omega]
  have e : (2 : Int) ^ (4 * (15 - i)) = ((16 ^ (15 - i) : Nat) : Int) := by rw [Int.pow_mul]; simp
  rw [e, Int.fdiv_eq_ediv_of_nonneg _ (Int.natCast_nonneg _)]
  rfl
theorem prS_list {g : List Nat} : (prS g).data.toList = prL g := by unfold prS; generalize prL g = l; simp
end Go.Den.Mon
end

section
set_option linter.unusedVariables false
set_option maxRecDepth 100000
namespace Go.Den.Mon
open Go Go.Den
noncomputable section
def internal_strconv_ParseUint.k0 (K : Value → Hp → Prop) (h : Hp) : Prop :=
 K (.tuple #[.int .u64 0, .iface 159 (.int .i64 2)]) h
def internal_strconv_ParseUint.k1 (K : Value → Hp → Prop) (h1 : Hp) : Prop :=
 K (.tuple #[.int .u64 (IntKind.wrap .u64 ((IntKind.wrap .u64 (1 * (2 ^ Min.min ((IntKind.wrap .u64 64).toNat) 64))) - 1)), .iface 159 (.int .i64 1)]) h1
def internal_strconv_ParseUint.k2 (I0 : List Value → Hp → Prop) (b0 : Bool) (n1 : Int) (v1 : Value) (n2 : Int) (n4 : Int) (n3 : Int) (h1 : Hp) (x0 : List Value → Hp → Nat) : Prop :=
 (I0 [.bool b0, .int .u64 n1, v1, .int .u64 (IntKind.wrap .u64 ((IntKind.wrap .u64 (n2 * (IntKind.wrap .u64 16))) + (IntKind.wrap .u64 (IntKind.wrap .u8 (n4 - 48))))), .int .i64 (IntKind.wrap .i64 (n3 + 1))] h1) ∧ (x0 [.bool b0, .int .u64 n1, v1, .int .u64 (IntKind.wrap .u64 ((IntKind.wrap .u64 (n2 * (IntKind.wrap .u64 16))) + (IntKind.wrap .u64 (IntKind.wrap .u8 (n4 - 48))))), .int .i64 (IntKind.wrap .i64 (n3 + 1))] h1) < (x0 [.bool b0, .int .u64 n1, v1, .int .u64 n2, .int .i64 n3] h1)
def internal_strconv_ParseUint.k3 (n2 : Int) (n4 : Int) (K : Value → Hp → Prop) (h1 : Hp) (I0 : List Value → Hp → Prop) (b0 : Bool) (n1 : Int) (v1 : Value) (n3 : Int) (x0 : List Value → Hp → Nat) : Prop :=
 bcase (decide ((IntKind.wrap .u64 ((IntKind.wrap .u64 (1 * (2 ^ Min.min ((IntKind.wrap .u64 64).toNat) 64))) - 1)) < (IntKind.wrap .u64 ((IntKind.wrap .u64 (n2 * (IntKind.wrap .u64 16))) + (IntKind.wrap .u64 (IntKind.wrap .u8 (n4 - 48)))))))
 ((internal_strconv_ParseUint.k1 K h1))
 ((internal_strconv_ParseUint.k2 I0 b0 n1 v1 n2 n4 n3 h1 x0))
def internal_strconv_ParseUint.k4 (n2 : Int) (n4 : Int) (K : Value → Hp → Prop) (h1 : Hp) (I0 : List Value → Hp → Prop) (b0 : Bool) (n1 : Int) (v1 : Value) (n3 : Int) (x0 : List Value → Hp → Nat) : Prop :=
 bcase (decide ((IntKind.wrap .u64 ((IntKind.wrap .u64 (n2 * (IntKind.wrap .u64 16))) + (IntKind.wrap .u64 (IntKind.wrap .u8 (n4 - 48))))) < (IntKind.wrap .u64 (n2 * (IntKind.wrap .u64 16)))))
 ((internal_strconv_ParseUint.k1 K h1))
 ((internal_strconv_ParseUint.k3 n2 n4 K h1 I0 b0 n1 v1 n3 x0))
def internal_strconv_ParseUint.k5 (n2 : Int) (K : Value → Hp → Prop) (h1 : Hp) (n4 : Int) (I0 : List Value → Hp → Prop) (b0 : Bool) (n1 : Int) (v1 : Value) (n3 : Int) (x0 : List Value → Hp → Nat) : Prop :=
 bcase (decide ((1152921504606846976 : Int) ≤ n2))
 ((internal_strconv_ParseUint.k1 K h1))
 ((internal_strconv_ParseUint.k4 n2 n4 K h1 I0 b0 n1 v1 n3 x0))
def internal_strconv_ParseUint.k6 (n4 : Int) (K : Value → Hp → Prop) (h1 : Hp) (n2 : Int) (I0 : List Value → Hp → Prop) (b0 : Bool) (n1 : Int) (v1 : Value) (n3 : Int) (x0 : List Value → Hp → Nat) : Prop :=
 bcase (decide ((IntKind.wrap .u8 16) ≤ (IntKind.wrap .u8 (n4 - 48))))
 ((internal_strconv_ParseUint.k0 K h1))
 ((internal_strconv_ParseUint.k5 n2 K h1 n4 I0 b0 n1 v1 n3 x0))
def internal_strconv_ParseUint.k7 (I0 : List Value → Hp → Prop) (b0 : Bool) (n1 : Int) (v1 : Value) (n2 : Int) (n7 : Int) (n3 : Int) (h4 : Hp) (x0 : List Value → Hp → Nat) (h1 : Hp) : Prop :=
 (I0 [.bool b0, .int .u64 n1, v1, .int .u64 (IntKind.wrap .u64 ((IntKind.wrap .u64 (n2 * (IntKind.wrap .u64 16))) + (IntKind.wrap .u64 (IntKind.wrap .u8 ((IntKind.wrap .u8 (n7 - 97)) + 10))))), .int .i64 (IntKind.wrap .i64 (n3 + 1))] h4) ∧ (x0 [.bool b0, .int .u64 n1, v1, .int .u64 (IntKind.wrap .u64 ((IntKind.wrap .u64 (n2 * (IntKind.wrap .u64 16))) + (IntKind.wrap .u64 (IntKind.wrap .u8 ((IntKind.wrap .u8 (n7 - 97)) + 10))))), .int .i64 (IntKind.wrap .i64 (n3 + 1))] h4) < (x0 [.bool b0, .int .u64 n1, v1, .int .u64 n2, .int .i64 n3] h1)
def internal_strconv_ParseUint.k8 (n2 : Int) (n7 : Int) (K : Value → Hp → Prop) (h4 : Hp) (I0 : List Value → Hp → Prop) (b0 : Bool) (n1 : Int) (v1 : Value) (n3 : Int) (x0 : List Value → Hp → Nat) (h1 : Hp) : Prop :=
 bcase (decide ((IntKind.wrap .u64 ((IntKind.wrap .u64 (1 * (2 ^ Min.min ((IntKind.wrap .u64 64).toNat) 64))) - 1)) < (IntKind.wrap .u64 ((IntKind.wrap .u64 (n2 * (IntKind.wrap .u64 16))) + (IntKind.wrap .u64 (IntKind.wrap .u8 ((IntKind.wrap .u8 (n7 - 97)) + 10)))))))
 ((internal_strconv_ParseUint.k1 K h4))
 ((internal_strconv_ParseUint.k7 I0 b0 n1 v1 n2 n7 n3 h4 x0 h1))
def internal_strconv_ParseUint.k9 (n2 : Int) (n7 : Int) (K : Value → Hp → Prop) (h4 : Hp) (I0 : List Value → Hp → Prop) (b0 : Bool) (n1 : Int) (v1 : Value) (n3 : Int) (x0 : List Value → Hp → Nat) (h1 : Hp) : Prop :=
 bcase (decide ((IntKind.wrap .u64 ((IntKind.wrap .u64 (n2 * (IntKind.wrap .u64 16))) + (IntKind.wrap .u64 (IntKind.wrap .u8 ((IntKind.wrap .u8 (n7 - 97)) + 10))))) < (IntKind.wrap .u64 (n2 * (IntKind.wrap .u64 16)))))
 ((internal_strconv_ParseUint.k1 K h4))
 ((internal_strconv_ParseUint.k8 n2 n7 K h4 I0 b0 n1 v1 n3 x0 h1))
def internal_strconv_ParseUint.k10 (n2 : Int) (K : Value → Hp → Prop) (h4 : Hp) (n7 : Int) (I0 : List Value → Hp → Prop) (b0 : Bool) (n1 : Int) (v1 : Value) (n3 : Int) (x0 : List Value → Hp → Nat) (h1 : Hp) : Prop :=
 bcase (decide ((1152921504606846976 : Int) ≤ n2))
 ((internal_strconv_ParseUint.k1 K h4))
 ((internal_strconv_ParseUint.k9 n2 n7 K h4 I0 b0 n1 v1 n3 x0 h1))
def internal_strconv_ParseUint.k11 (n7 : Int) (K : Value → Hp → Prop) (h4 : Hp) (n2 : Int) (I0 : List Value → Hp → Prop) (b0 : Bool) (n1 : Int) (v1 : Value) (n3 : Int) (x0 : List Value → Hp → Nat) (h1 : Hp) : Prop :=
 bcase (decide ((IntKind.wrap .u8 16) ≤ (IntKind.wrap .u8 ((IntKind.wrap .u8 (n7 - 97)) + 10))))
 ((internal_strconv_ParseUint.k0 K h4))
 ((internal_strconv_ParseUint.k10 n2 K h4 n7 I0 b0 n1 v1 n3 x0 h1))
def internal_strconv_ParseUint.k12 (n4 : Int) (h3 : Hp) (K : Value → Hp → Prop) (n2 : Int) (I0 : List Value → Hp → Prop) (b0 : Bool) (n1 : Int) (v1 : Value) (n3 : Int) (x0 : List Value → Hp → Nat) (h1 : Hp) : Prop :=
 HC P internal_strconv_lower.n #[.int .u8 n4] h3 (fun v4 h4 => (∃ n7 : Int, (v4 = (.int .u8 n7)) ∧ (internal_strconv_ParseUint.k11 n7 K h4 n2 I0 b0 n1 v1 n3 x0 h1)))
def internal_strconv_ParseUint.k13 (n6 : Int) (n4 : Int) (h3 : Hp) (K : Value → Hp → Prop) (n2 : Int) (I0 : List Value → Hp → Prop) (b0 : Bool) (n1 : Int) (v1 : Value) (n3 : Int) (x0 : List Value → Hp → Nat) (h1 : Hp) : Prop :=
 bcase (decide (n6 ≤ 122))
 ((internal_strconv_ParseUint.k12 n4 h3 K n2 I0 b0 n1 v1 n3 x0 h1))
 ((internal_strconv_ParseUint.k0 K h3))
def internal_strconv_ParseUint.k14 (n4 : Int) (h2 : Hp) (K : Value → Hp → Prop) (n2 : Int) (I0 : List Value → Hp → Prop) (b0 : Bool) (n1 : Int) (v1 : Value) (n3 : Int) (x0 : List Value → Hp → Nat) (h1 : Hp) : Prop :=
 HC P internal_strconv_lower.n #[.int .u8 n4] h2 (fun v3 h3 => (∃ n6 : Int, (v3 = (.int .u8 n6)) ∧ (internal_strconv_ParseUint.k13 n6 n4 h3 K n2 I0 b0 n1 v1 n3 x0 h1)))
def internal_strconv_ParseUint.k15 (n5 : Int) (n4 : Int) (h2 : Hp) (K : Value → Hp → Prop) (n2 : Int) (I0 : List Value → Hp → Prop) (b0 : Bool) (n1 : Int) (v1 : Value) (n3 : Int) (x0 : List Value → Hp → Nat) (h1 : Hp) : Prop :=
 bcase (decide ((97 : Int) ≤ n5))
 ((internal_strconv_ParseUint.k14 n4 h2 K n2 I0 b0 n1 v1 n3 x0 h1))
 ((internal_strconv_ParseUint.k0 K h2))
def internal_strconv_ParseUint.k16 (n4 : Int) (h1 : Hp) (K : Value → Hp → Prop) (n2 : Int) (I0 : List Value → Hp → Prop) (b0 : Bool) (n1 : Int) (v1 : Value) (n3 : Int) (x0 : List Value → Hp → Nat) : Prop :=
 HC P internal_strconv_lower.n #[.int .u8 n4] h1 (fun v2 h2 => (∃ n5 : Int, (v2 = (.int .u8 n5)) ∧ (internal_strconv_ParseUint.k15 n5 n4 h2 K n2 I0 b0 n1 v1 n3 x0 h1)))
def internal_strconv_ParseUint.k17 (n4 : Int) (K : Value → Hp → Prop) (h1 : Hp) (n2 : Int) (I0 : List Value → Hp → Prop) (b0 : Bool) (n1 : Int) (v1 : Value) (n3 : Int) (x0 : List Value → Hp → Nat) : Prop :=
 bcase (decide (n4 ≤ 57))
 ((internal_strconv_ParseUint.k6 n4 K h1 n2 I0 b0 n1 v1 n3 x0))
 ((internal_strconv_ParseUint.k16 n4 h1 K n2 I0 b0 n1 v1 n3 x0))
def internal_strconv_ParseUint.k18 (n4 : Int) (K : Value → Hp → Prop) (h1 : Hp) (n2 : Int) (I0 : List Value → Hp → Prop) (b0 : Bool) (n1 : Int) (v1 : Value) (n3 : Int) (x0 : List Value → Hp → Nat) : Prop :=
 bcase (decide ((48 : Int) ≤ n4))
 ((internal_strconv_ParseUint.k17 n4 K h1 n2 I0 b0 n1 v1 n3 x0))
 ((internal_strconv_ParseUint.k16 n4 h1 K n2 I0 b0 n1 v1 n3 x0))
def internal_strconv_ParseUint.k19 (n3 : Int) (n0 : Nat) (a0 : Option Addr) (h1 : Hp) (K : Value → Hp → Prop) (n2 : Int) (I0 : List Value → Hp → Prop) (b0 : Bool) (n1 : Int) (v1 : Value) (x0 : List Value → Hp → Nat) : Prop :=
 ((0 : Int) ≤ n3) ∧ (n3 < (n0 : Int)) ∧ someD a0 (fun p0 => (∃ n4 : Int, ((h1.cell? (p0.add (n3.toNat * 1))) = (some (.int .u8 n4))) ∧ bcase ((n4 == 95))
 ((internal_strconv_ParseUint.k18 n4 K h1 n2 I0 b0 n1 v1 n3 x0))
 ((internal_strconv_ParseUint.k18 n4 K h1 n2 I0 b0 n1 v1 n3 x0))))
def internal_strconv_ParseUint.k20 (b1 : Bool) (K : Value → Hp → Prop) (h5 : Hp) (n2 : Int) : Prop :=
 bcase ((!b1))
 ((internal_strconv_ParseUint.k0 K h5))
 (K (.tuple #[.int .u64 n2, .nilIface]) h5)
def internal_strconv_ParseUint.k21 (s0 : ByteArray) (h1 : Hp) (K : Value → Hp → Prop) (n2 : Int) : Prop :=
 HC P internal_strconv_underscoreOK.n #[.string s0] h1 (fun v5 h5 => (∃ b1 : Bool, (v5 = (.bool b1)) ∧ (internal_strconv_ParseUint.k20 b1 K h5 n2)))
def internal_strconv_ParseUint.k22 (b0 : Bool) (s0 : ByteArray) (h1 : Hp) (K : Value → Hp → Prop) (n2 : Int) : Prop :=
 bcase (b0)
 ((internal_strconv_ParseUint.k21 s0 h1 K n2))
 (K (.tuple #[.int .u64 n2, .nilIface]) h1)
def internal_strconv_ParseUint.k23 (I0 : List Value → Hp → Prop) (h0 : Hp) (n0 : Nat) (a0 : Option Addr) (K : Value → Hp → Prop) (x0 : List Value → Hp → Nat) (s0 : ByteArray) : Prop :=
 (I0 [.bool Bool.false, .int .u64 0, .nilIface, .int .u64 0, .int .i64 0] h0) ∧ (∀ h1 : Hp, (∀ b0 : Bool, (∀ n1 : Int, (∀ v1 : Value, (∀ n2 : Int, (∀ n3 : Int, (I0 [.bool b0, .int .u64 n1, v1, .int .u64 n2, .int .i64 n3] h1 → bcase (decide (n3 < (n0 : Int)))
 ((internal_strconv_ParseUint.k19 n3 n0 a0 h1 K n2 I0 b0 n1 v1 x0))
 ((internal_strconv_ParseUint.k22 b0 s0 h1 K n2)))))))))
def internal_strconv_ParseUint.k24 (s0 : ByteArray) (K : Value → Hp → Prop) (h : Hp) : Prop :=
 ((0 : Int) ≤ (IntKind.wrap .u64 64)) ∧ wpSem P (convDark T.string T.sl_uint8 (.string s0)) (fun v0 h0 => (∃ a0 : Option Addr, (∃ n0 : Nat, (∃ c0 : Nat, (v0 = (.slice a0 n0 c0)) ∧ (∃ I0 : List Value → Hp → Prop, (∃ x0 : List Value → Hp → Nat, (internal_strconv_ParseUint.k23 I0 h0 n0 a0 K x0 s0))))))) h
def internal_strconv_ParseUint (s0 : ByteArray) (K : Value → Hp → Prop) (h : Hp) : Prop :=
 bcase (((ByteArray.toList s0) == []))
 ((internal_strconv_ParseUint.k0 K h))
 ((internal_strconv_ParseUint.k24 s0 K h))
theorem internal_strconv_ParseUint.hc {s0 : ByteArray} {K : Value → Hp → Prop} {h : Hp} (hh : internal_strconv_ParseUint s0 K h) : HC P internal_strconv_ParseUint.n #[.string s0, .int .i64 16, .int .i64 64] h K :=
  HC_of_den (fn := Go.Proofs.Tryz.f70) (args := [.string s0, .int .i64 16, .int .i64 64]) Go.Proofs.Tryz.func70 rfl (Nat.le_of_ble_eq_true (by kernel_rfl)) (den_cast hh (by kernel_rfl))
end
end Go.Den.Mon
end

section
set_option linter.unusedVariables false
set_option maxRecDepth 100000
namespace Go.Den.Mon
open Go Go.Den
variable {h : Hp} {K : Value → Hp → Prop}
theorem strBytes_wp {s : ByteArray} {C : Value → Hp → Prop} (hk : ∀ b cap h', (∀ (j : Nat) (c : UInt8), s.data.toList[j]? = some c → h'.cell? ⟨b, j, none⟩ = some (.int .u8 (c.toNat : Int))) → h' b ≠ none → Step [] h [] h' → C (.slice (some ⟨b, 0, none⟩) s.size cap) h') :
    wpSem P (convDark T.string T.sl_uint8 (.string s)) C h := by
  have u1 : P.underlying T.sl_uint8 = some (.slice T.uint8) := by kernel_rfl
  have u2 : P.underlying T.string = some .string := by kernel_rfl
  have u3 : P.underlying T.uint8 = some (.int .u8) := by kernel_rfl
  show wpSem P (convert T.string T.sl_uint8 (.string s)) C h
  unfold convert
  refine wpSem_bind _ _ _ _ (wp_underlying u2 ?_)
  refine wpSem_bind _ _ _ _ (wp_underlying u1 ?_)
  refine wpSem_bind _ _ _ _ (wp_underlying u3 ?_)
  show wpSem P (Conv.stringToBytes T.uint8 s) C h
  unfold Conv.stringToBytes
  refine wpSem_bind _ _ _ _ ?_
  intro tt
  generalize (if (Question.appendCap s.size 0 T.uint8).forced then 0 else (Question.appendCap s.size 0 T.uint8).cut tt) = cap
  refine wp_pure (P := P) ?_
  refine wpSem_bind _ _ _ _ ?_
  unfold newRow newObj
  refine wpSem_bind _ _ _ _ ?_
  intro b hb
  refine wp_pure (P := P) (wp_pure (P := P) ?_)
  generalize hcs : (Array.map (fun (b : UInt8) => Value.int .u8 (b.toNat : Int)) s.data ++ Array.replicate (cap - s.size) (.int .u8 0)) = cs
  obtain ⟨H, hH⟩ : ∃ H, H = h.put b (.cells cs T.uint8 (0, 0)) := ⟨_, rfl⟩
  have Hb : H b = some (.cells cs T.uint8 (0, 0)) := by rw [hH, put_self]
  have hsh : H.shape? b = some (T.uint8, cs.size) := by unfold Hp.shape?; rw [Hb]
  rw [← hH]
  refine wpSem_bind _ _ _ _ ?_
  show wpSem P (match H.shape? b with | some (_, n) => freeze { block := b, off := n } 1 | x => pure ()) _ H
  rw [hsh]
  show C (.slice (some ⟨b, 0, none⟩) s.size cap) (H.freeze { block := b, off := cs.size } 1)
  refine hk b cap _ (fun j c hc => ?_) (freeze_dom (by rw [Hb]; simp)) ?_
  · have : (H.freeze { block := b, off := cs.size } 1).cell? ⟨b, j, none⟩ = H.cell? ⟨b, j, none⟩ := by
      unfold Hp.cell? Hp.freeze
      simp [Hb, Hp.freezeObj]
    rw [this, cell_of Hb, ← hcs]
    have hj := (List.getElem?_eq_some_iff.1 hc).1
    rw [Array.getElem?_append_left (by simpa using hj), Array.getElem?_map]
    rw [show s.data[j]? = some c by rw [← Array.getElem?_toList]; exact hc]
    rfl
  · have s1 : Step [] h [b] H := by rw [hH]; exact Step.new hb
    have s2 : Step [b] H [b] (H.freeze { block := b, off := cs.size } 1) := ⟨fun k hk hn => freeze_off fun e => hn (by simp [e]), fun k hk => .inl hk, fun k hk => freeze_dom hk⟩
    exact (s1.trans s2).forget0
/-! ### Digits that are read -/
def lo (n : Nat) : Int := bits .or .u8 (n : Int) 32
theorem lower_spec {n : Nat} (hk : K (.int .u8 (lo n)) h) : HC P internal_strconv_lower.n #[.int .u8 (n : Int)] h K := by
  refine internal_strconv_lower.hc ?_
  unfold internal_strconv_lower
  exact hk
theorem tabU : ((List.range 256).all fun n => if 48 ≤ n ∧ n ≤ 57 then hv n == (n : Int) - 48 && (IntKind.wrap .u8 ((n : Int) - 48) == (n : Int) - 48) else
    if 97 ≤ lo n ∧ lo n ≤ 122 then (if 16 ≤ IntKind.wrap .u8 (IntKind.wrap .u8 (lo n - 97) + 10) then hv n == -1 else hv n == IntKind.wrap .u8 (IntKind.wrap .u8 (lo n - 97) + 10)) else hv n == -1) = true := by decide +kernel
theorem tab_digit {n : Nat} (hn : n < 256) (h1 : 48 ≤ n ∧ n ≤ 57) : hv n = (n : Int) - 48 ∧ IntKind.wrap .u8 ((n : Int) - 48) = (n : Int) - 48 := by
  have := List.all_eq_true.1 tabU n (List.mem_range.2 hn)
  rw [if_pos h1, Bool.and_eq_true, beq_iff_eq, beq_iff_eq] at this
  exact this
theorem tab_letter {n : Nat} (hn : n < 256) (h1 : ¬ (48 ≤ n ∧ n ≤ 57)) (h2 : 97 ≤ lo n ∧ lo n ≤ 122) : if 16 ≤ IntKind.wrap .u8 (IntKind.wrap .u8 (lo n - 97) + 10) then hv n = -1 else hv n = IntKind.wrap .u8 (IntKind.wrap .u8 (lo n - 97) + 10) := by
  have := List.all_eq_true.1 tabU n (List.mem_range.2 hn)
  rw [if_neg h1, if_pos h2] at this
  split at this
  · rw [if_pos (by assumption)]; simpa using this
  · rw [if_neg (by assumption)]; simpa using this
theorem tab_none {n : Nat} (hn : n < 256) (h1 : ¬ (48 ≤ n ∧ n ≤ 57)) (h2 : ¬ (97 ≤ lo n ∧ lo n ≤ 122)) : hv n = -1 := by
  have := List.all_eq_true.1 tabU n (List.mem_range.2 hn)
  rw [if_neg h1, if_neg h2] at this
  simpa using this
end Go.Den.Mon
end

section
set_option linter.unusedVariables false
set_option maxRecDepth 100000
namespace Go.Den.Mon
open Go Go.Den
variable {h : Hp} {K : Value → Hp → Prop}
def uv (l : List UInt8) : Nat := l.foldl (fun v c => v * 16 + (hv c.toNat).toNat) 0
def uok (l : List UInt8) : Prop := ∀ c ∈ l, 0 ≤ hv c.toNat
theorem uv_snoc {l : List UInt8} {c : UInt8} : uv (l ++ [c]) = uv l * 16 + (hv c.toNat).toNat := by simp [uv]
theorem uv_lt {l : List UInt8} : uv l < 16 ^ l.length := by
  have go : ∀ (l : List UInt8) (v n : Nat), v < 16 ^ n → l.foldl (fun v c => v * 16 + (hv c.toNat).toNat) v < 16 ^ (n + l.length) := by
    intro l
    induction l with
    | nil => intro v n hv; exact hv
    | cons c l ih =>
      intro v n hvn
      have hc := hv_lt c.toNat
      have := ih (v * 16 + (hv c.toNat).toNat) (n + 1) (by rw [Nat.pow_succ]; omega)
      rw [List.length_cons, show n + (l.length + 1) = n + 1 + l.length by omega]
      exact this
  have := go l 0 0 (by omega)
  simpa [uv] using this
theorem uok_snoc {l : List UInt8} {c : UInt8} (h1 : uok l) (h2 : 0 ≤ hv c.toNat) : uok (l ++ [c]) := by
  intro x hx
  rcases List.mem_append.1 hx with z | z
  · exact h1 x z
  · simp at z; rw [z]; exact h2
theorem parseU_spec {s : ByteArray} (hl : s.data.toList.length = 16) (hk1 : uok s.data.toList → ∀ h', Step [] h [] h' → K (.tuple #[.int .u64 (uv s.data.toList : Int), .nilIface]) h')
    (hk0 : ¬ uok s.data.toList → ∀ h', Step [] h [] h' → K (.tuple #[.int .u64 0, .iface 159 (.int .i64 2)]) h') : HC P internal_strconv_ParseUint.n #[.string s, .int .i64 16, .int .i64 64] h K := by
  have es : s.size = s.data.toList.length := Lib.size_eq _
  refine internal_strconv_ParseUint.hc ?_
  unfold internal_strconv_ParseUint
  rw [txt_nil]
  refine bcF (decide_eq_false (by omega)) ?_
  unfold internal_strconv_ParseUint.k24
  refine ⟨by decide +kernel, strBytes_wp fun b cap H hc Hb sH => ⟨_, _, _, rfl, ?_⟩⟩
  generalize s.data.toList = l at *
  obtain ⟨I0, hI0⟩ : ∃ I0 : List Value → Hp → Prop, I0 = fun vs hh => ∃ (i : Nat), vs = [.bool false, .int .u64 0, .nilIface, .int .u64 (uv (l.take i) : Int), .int .i64 (i : Int)] ∧ i ≤ 16 ∧ uok (l.take i) ∧ Step [] H [] hh := ⟨_, rfl⟩
  obtain ⟨x0, hx0⟩ : ∃ x0 : List Value → Hp → Nat, x0 = fun vs _ => match vs with | [_, _, _, _, .int _ i] => 16 - i.toNat | _ => 0 := ⟨_, rfl⟩
  refine ⟨I0, x0, ?_⟩
  unfold internal_strconv_ParseUint.k23
  refine ⟨by rw [hI0]; exact ⟨0, rfl, by omega, by simp [uok], Step.refl _ _⟩, ?_⟩
  intro h1 b0 n1 v1 n2 n3 hin
  rw [hI0] at hin
  obtain ⟨i, he, hi, ok, st⟩ := hin
  have e1' : b0 = false ∧ n1 = 0 ∧ v1 = .nilIface ∧ n2 = (uv (l.take i) : Int) ∧ n3 = (i : Int) := by cases he; exact ⟨rfl, rfl, rfl, rfl, rfl⟩
  clear he
  obtain ⟨rfl, rfl, rfl, rfl, rfl⟩ := e1'
  have St := sH.trans st
  rw [es]
  refine bcase_intro (fun hc' => ?_) fun hc' => ?_
  · have hi' : i < 16 := by have := of_decide_eq_true hc'; omega
    obtain ⟨c, hcc⟩ : ∃ c, l[i]? = some c := ⟨_, List.getElem?_eq_getElem (by omega)⟩
    have mc' := List.mem_of_getElem? hcc
    have lt := uv_lt (l := l.take i)
    rw [List.length_take, hl, Nat.min_eq_left hi] at lt
    have lt15 : uv (l.take i) < 1152921504606846976 := by
      have : 16 ^ i ≤ 16 ^ 15 := Nat.pow_le_pow_right (by omega) (by omega)
      omega
    have et : l.take (i + 1) = l.take i ++ [c] := by rw [List.take_add_one, hcc]; rfl
    have bad : ∀ {h5 : Hp}, Step [] h1 [] h5 → hv c.toNat = -1 → internal_strconv_ParseUint.k0 K h5 := fun s5 e => by
      unfold internal_strconv_ParseUint.k0
      exact hk0 (fun q => by have := q c mc'; omega) _ (St.trans s5)
    have c256 := UInt8.toNat_lt c
    have w16 : IntKind.wrap .u64 16 = 16 := by decide +kernel
    have w16' : IntKind.wrap .u8 16 = 16 := by decide +kernel
    have wmax : IntKind.wrap .u64 ((IntKind.wrap .u64 (1 * (2 ^ Min.min ((IntKind.wrap .u64 64).toNat) 64))) - 1) = 18446744073709551615 := by decide +kernel
    have next : ∀ (d : Int), d = hv c.toNat → 0 ≤ d → ∀ (h5 : Hp), Step [] h1 [] h5 →
        I0 [.bool false, .int .u64 0, .nilIface, .int .u64 (IntKind.wrap .u64 ((IntKind.wrap .u64 ((uv (l.take i) : Int) * 16)) + (IntKind.wrap .u64 d))), .int .i64 (IntKind.wrap .i64 ((i : Int) + 1))] h5 ∧
        x0 [.bool false, .int .u64 0, .nilIface, .int .u64 (IntKind.wrap .u64 ((IntKind.wrap .u64 ((uv (l.take i) : Int) * 16)) + (IntKind.wrap .u64 d))), .int .i64 (IntKind.wrap .i64 ((i : Int) + 1))] h5 < x0 [.bool false, .int .u64 0, .nilIface, .int .u64 (uv (l.take i) : Int), .int .i64 (i : Int)] h1 := by
      intro d ed d0 h5 s5
      have d16 := hv_lt c.toNat
      rw [← ed] at d16
      rw [wrapN (m := i + 1) (by simp) (by omega), wrapU64 (n := (uv (l.take i) : Int) * 16) (m := uv (l.take i) * 16) (by omega) (by omega), wrapU64 (n := d) (m := d.toNat) (by omega) (by omega), wrapU64 (m := uv (l.take i) * 16 + d.toNat) (by omega) (by omega)]
      refine ⟨?_, ?_⟩
      · rw [hI0]
        refine ⟨i + 1, by rw [et, uv_snoc, ← ed], by omega, by rw [et]; exact uok_snoc ok (by omega), st.trans s5⟩
      · rw [hx0]
        show 16 - ((i + 1 : Nat) : Int).toNat < 16 - (i : Int).toNat
        omega
    have noover : ∀ (d : Int), d = hv c.toNat → 0 ≤ d → decide ((1152921504606846976 : Int) ≤ (uv (l.take i) : Int)) = false ∧
        decide ((IntKind.wrap .u64 ((IntKind.wrap .u64 ((uv (l.take i) : Int) * 16)) + (IntKind.wrap .u64 d))) < (IntKind.wrap .u64 ((uv (l.take i) : Int) * 16))) = false ∧
        decide ((18446744073709551615 : Int) < (IntKind.wrap .u64 ((IntKind.wrap .u64 ((uv (l.take i) : Int) * 16)) + (IntKind.wrap .u64 d)))) = false := by
      intro d ed d0
      have d16 := hv_lt c.toNat
      rw [← ed] at d16
      rw [wrapU64 (n := (uv (l.take i) : Int) * 16) (m := uv (l.take i) * 16) (by omega) (by omega), wrapU64 (n := d) (m := d.toNat) (by omega) (by omega), wrapU64 (m := uv (l.take i) * 16 + d.toNat) (by omega) (by omega)]
      exact ⟨decide_eq_false (by omega), decide_eq_false (by omega), decide_eq_false (by omega)⟩
    have k16 : ¬ (48 ≤ c.toNat ∧ c.toNat ≤ 57) → internal_strconv_ParseUint.k16 (c.toNat : Int) h1 K (uv (l.take i) : Int) I0 false 0 .nilIface (i : Int) x0 := fun nd => by
      unfold internal_strconv_ParseUint.k16
      refine lower_spec ⟨_, rfl, ?_⟩
      unfold internal_strconv_ParseUint.k15
      refine bcase_intro (fun q1 => ?_) fun q1 => bad (Step.refl _ _) (tab_none c256 nd fun z => by have := of_decide_eq_false q1; omega)
      have q1 := of_decide_eq_true q1
      unfold internal_strconv_ParseUint.k14
      refine lower_spec ⟨_, rfl, ?_⟩
      unfold internal_strconv_ParseUint.k13
      refine bcase_intro (fun q2 => ?_) fun q2 => bad (Step.refl _ _) (tab_none c256 nd fun z => by have := of_decide_eq_false q2; omega)
      have q2 := of_decide_eq_true q2
      have tl := tab_letter c256 nd ⟨q1, q2⟩
      unfold internal_strconv_ParseUint.k12
      refine lower_spec ⟨_, rfl, ?_⟩
      unfold internal_strconv_ParseUint.k11
      rw [w16']
      refine bcase_intro (fun q3 => ?_) fun q3 => ?_
      · rw [if_pos (of_decide_eq_true q3)] at tl
        exact bad (Step.refl _ _) tl
      · rw [if_neg (of_decide_eq_false q3)] at tl
        have d0 : 0 ≤ IntKind.wrap .u8 (IntKind.wrap .u8 (lo c.toNat - 97) + 10) := by rw [IntKind.wrap_u8]; omega
        obtain ⟨o1, o2, o3⟩ := noover _ tl.symm d0
        have nx := next _ tl.symm d0 h1 (Step.refl _ _)
        unfold internal_strconv_ParseUint.k10
        refine bcF o1 ?_
        unfold internal_strconv_ParseUint.k9
        rw [w16]
        refine bcF o2 ?_
        unfold internal_strconv_ParseUint.k8
        rw [w16, wmax]
        refine bcF o3 ?_
        unfold internal_strconv_ParseUint.k7
        rw [w16]
        exact nx
    have k18 : internal_strconv_ParseUint.k18 (c.toNat : Int) K h1 (uv (l.take i) : Int) I0 false 0 .nilIface (i : Int) x0 := by
      unfold internal_strconv_ParseUint.k18
      refine bcase_intro (fun q1 => ?_) fun q1 => k16 fun z => by have := of_decide_eq_false q1; omega
      have q1 := of_decide_eq_true q1
      unfold internal_strconv_ParseUint.k17
      refine bcase_intro (fun q2 => ?_) fun q2 => k16 fun z => by have := of_decide_eq_false q2; omega
      have q2 := of_decide_eq_true q2
      obtain ⟨e1, e2⟩ := tab_digit c256 ⟨by omega, by omega⟩
      unfold internal_strconv_ParseUint.k6
      rw [w16', e2]
      refine bcF (decide_eq_false (by omega)) ?_
      have d0 : 0 ≤ (c.toNat : Int) - 48 := by omega
      obtain ⟨o1, o2, o3⟩ := noover _ e1.symm d0
      have nx := next _ e1.symm d0 h1 (Step.refl _ _)
      unfold internal_strconv_ParseUint.k5
      refine bcF o1 ?_
      unfold internal_strconv_ParseUint.k4
      rw [w16, e2]
      refine bcF o2 ?_
      unfold internal_strconv_ParseUint.k3
      rw [w16, wmax, e2]
      refine bcF o3 ?_
      unfold internal_strconv_ParseUint.k2
      rw [w16, e2]
      exact nx
    unfold internal_strconv_ParseUint.k19
    rw [someD_some, Int.toNat_natCast]
    refine ⟨by omega, by omega, _, ?_, bcase_intro (fun _ => k18) fun _ => k18⟩
    rw [Nat.mul_one, Addr.add_mk, Nat.zero_add]
    exact cell_stepH st (hc i c hcc)
  · have hi' : i = 16 := by have := of_decide_eq_false hc'; omega
    rw [show l.take i = l by rw [hi']; exact List.take_of_length_le (by omega)] at ok ⊢
    unfold internal_strconv_ParseUint.k22
    exact bcF rfl (hk1 ok h1 St)
theorem parse_spec (en : Env h) {s : ByteArray} (hl : s.data.toList.length = 16) (hk1 : uok s.data.toList → ∀ h', Step [] h [] h' → K (.tuple #[.int .u64 (uv s.data.toList : Int), .nilIface]) h')
    (hk0 : ¬ uok s.data.toList → ∀ t v h', Step [] h [] h' → K (.tuple #[.int .u64 0, .iface t v]) h') : HC P strconv_ParseUint.n #[.string s, .int .i64 16, .int .i64 64] h K := by
  have es : s.size = s.data.toList.length := Lib.size_eq _
  refine strconv_ParseUint.hc ?_
  unfold strconv_ParseUint
  refine parseU_spec hl (fun ok h1 s1 => ⟨_, _, rfl, ?_⟩) fun no h1 s1 => ⟨_, _, rfl, ?_⟩
  · unfold strconv_ParseUint.k0
    exact .inl ⟨rfl, hk1 ok h1 s1⟩
  · unfold strconv_ParseUint.k0
    exact .inr ⟨_, _, rfl, toError_spec (en.step s1) (by omega) fun t v h2 s2 => ⟨_, rfl, hk0 no t v h2 (s1.trans s2)⟩⟩
end Go.Den.Mon
end

section
set_option linter.unusedVariables false
set_option maxRecDepth 100000
namespace Go.Den.Mon
open Go Go.Den
def stp (q : Nat × List Nat) (b : UInt8) : Nat × List Nat :=
  if 0 ≤ hv b.toNat then (q.1 + 1, if q.1 < 32 then q.2.set (q.1 / 2) ((q.2.getD (q.1 / 2) 0 * 16 + (hv b.toNat).toNat) % 256) else q.2) else q
def la (b : UInt8) : UInt8 := if 65 ≤ b.toNat ∧ b.toNat ≤ 70 then (b.toNat + 32).toUInt8 else b
theorem la_toNat (b : UInt8) : (la b).toNat = if 65 ≤ b.toNat ∧ b.toNat ≤ 70 then b.toNat + 32 else b.toNat := by
  unfold la
  split
  · show (b.toNat + 32) % 256 = _; omega
  · rfl
/-! ### The places of what is printed -/
theorem pr_length {g : List Nat} : ∀ (k : Nat), (pr g k).length = at' k
  | 0 => rfl
  | k + 1 => by
    have ih := pr_length (g := g) k
    have hs : at' k + (sep k).length = pos k := by
      unfold sep
      cases hd : dash k with
      | true => simp [pos_dash hd]
      | false => simp [pos_plain hd]
    simp only [pr, List.length_append, hex2, List.length_cons, List.length_nil, ih]
    rw [at_succ]; omega
theorem pr_pre {g : List Nat} (k : Nat) : ∀ (m : Nat), ∃ t, pr g (k + m) = pr g k ++ t
  | 0 => ⟨[], by simp⟩
  | m + 1 => by
    obtain ⟨t, e⟩ := pr_pre k m
    refine ⟨t ++ (sep (k + m) ++ hex2 (g.getD (k + m) 0)), ?_⟩
    show pr g (k + m) ++ sep (k + m) ++ hex2 (g.getD (k + m) 0) = _
    rw [e]; simp
theorem prL_38 {g : List Nat} : (prL g).length = 38 := by unfold prL; rw [List.length_append, pr_length]; rfl
theorem prL_at {g : List Nat} {k : Nat} (hk : k < 16) : (prL g).getD (pos k) 0 = hexc (g.getD k 0 / 16) ∧ (prL g).getD (pos k + 1) 0 = hexc (g.getD k 0 % 16) := by
  obtain ⟨t, e⟩ := pr_pre (g := g) (k + 1) (15 - k)
  have e16 : k + 1 + (15 - k) = 16 := by omega
  rw [e16] at e
  have hl : (pr g k ++ sep k).length = pos k := by
    rw [List.length_append, pr_length]
    unfold sep
    cases hd : dash k with
    | true => simp [pos_dash hd]
    | false => simp [pos_plain hd]
  have : prL g = (pr g k ++ sep k) ++ (hexc (g.getD k 0 / 16) :: hexc (g.getD k 0 % 16) :: (t ++ [125])) := by
    unfold prL; rw [e]; simp [pr, hex2]
  rw [this]
  constructor
  · rw [List.getD, List.getElem?_append_right (by omega), hl, Nat.sub_self]; rfl
  · rw [List.getD, List.getElem?_append_right (by omega), hl, show pos k + 1 - pos k = 1 by omega]; rfl
theorem hv_hexcs : ((List.range 16).all fun d => hv (hexc d).toNat == (d : Int)) = true := by decide +kernel
theorem hv_hexc {d : Nat} (hd : d < 16) : hv (hexc d).toNat = (d : Int) := by simpa using List.all_eq_true.1 hv_hexcs d (List.mem_range.2 hd)
/-! ### The signs that are printed -/
def Q (b : UInt8) : Prop := b = 123 ∨ b = 45 ∨ b = 125 ∨ ∃ d, d < 16 ∧ b = hexc d
theorem pr_Q {g : List Nat} (hg : ∀ x ∈ g, x < 256) : ∀ (k : Nat), ∀ b ∈ pr g k, Q b
  | 0, b, hb => by simp [pr] at hb; exact .inl hb
  | k + 1, b, hb => by
    have hx : g.getD k 0 < 256 := by
      rw [List.getD]
      cases e : g[k]? with
      | none => decide
      | some x => exact hg x (List.mem_of_getElem? e)
    rcases List.mem_append.1 hb with hb | hb
    · rcases List.mem_append.1 hb with hb | hb
      · exact pr_Q hg k b hb
      · unfold sep at hb
        split at hb
        · simp at hb; exact .inr (.inl hb)
        · simp at hb
    · simp only [hex2, List.mem_cons, List.not_mem_nil, or_false] at hb
      rcases hb with rfl | rfl
      · exact .inr (.inr (.inr ⟨_, by omega, rfl⟩))
      · exact .inr (.inr (.inr ⟨_, by omega, rfl⟩))
theorem prL_Q {g : List Nat} (hg : isG g) : ∀ b ∈ prL g, Q b := fun b hb => by
  rcases List.mem_append.1 hb with hb | hb
  · exact pr_Q hg.2 16 b hb
  · simp at hb; exact .inr (.inr (.inl hb))
theorem Q_nat {b : UInt8} (q : Q b) : b.toNat = 123 ∨ b.toNat = 45 ∨ b.toNat = 125 ∨ (48 ≤ b.toNat ∧ b.toNat ≤ 57) ∨ (97 ≤ b.toNat ∧ b.toNat ≤ 102) := by
  rcases q with rfl | rfl | rfl | ⟨d, hd, rfl⟩
  · exact .inl rfl
  · exact .inr (.inl rfl)
  · exact .inr (.inr (.inl rfl))
  · rw [hexc_toNat hd]; split <;> omega
theorem lower_nat (b : UInt8) : (Lib.lowerB b).toNat = if 65 ≤ b.toNat ∧ b.toNat ≤ 90 then b.toNat + 32 else b.toNat := by
  have e : Lib.isUpperB b = decide (65 ≤ b.toNat ∧ b.toNat ≤ 90) := by
    unfold Lib.isUpperB
    rw [Bool.eq_iff_iff, Bool.and_eq_true, decide_eq_true_iff, decide_eq_true_iff, decide_eq_true_iff, UInt8.le_iff_toNat_le, UInt8.le_iff_toNat_le]
    exact Iff.rfl
  unfold Lib.lowerB
  rw [e]
  by_cases h : 65 ≤ b.toNat ∧ b.toNat ≤ 90
  · rw [if_pos (by simpa using h), if_pos h, UInt8.toNat_add]
    show (b.toNat + 32) % 256 = _; omega
  · rw [if_neg (by simpa using h), if_neg h]
theorem lower_la {b : UInt8} (q : Q (la b)) : Lib.lowerB b = la b := by
  apply UInt8.toNat_inj.1
  have := Q_nat q
  rw [la_toNat] at this
  rw [lower_nat, la_toNat]
  by_cases h1 : 65 ≤ b.toNat ∧ b.toNat ≤ 70
  · rw [if_pos h1, if_pos (by omega)]
  · rw [if_neg h1] at this
    rw [if_neg h1, if_neg (by omega)]
theorem la_Q {b : UInt8} (q : Q b) : la b = b := by
  apply UInt8.toNat_inj.1
  have := Q_nat q
  rw [la_toNat, if_neg (by omega)]
theorem la_128 {b : UInt8} (q : Q (la b)) : b.toNat < 128 := by
  have := Q_nat q
  rw [la_toNat] at this
  split at this <;> omega
theorem hv_la (b : UInt8) : hv (la b).toNat = hv b.toNat := by
  rw [la_toNat]
  split
  · rename_i h
    unfold hv
    rw [if_neg (by omega), if_pos (by omega), if_neg (by omega), if_neg (by omega), if_pos h]; omega
  · rfl
/-! ### What the document takes -/
def Acc (l : List UInt8) (g : List Nat) : Prop := l.map la = prL g
section
variable {l : List UInt8} {g : List Nat}
theorem Acc.len (a : Acc l g) : l.length = 38 := by have := congrArg List.length a; rwa [List.length_map, prL_38] at this
theorem Acc.Q (a : Acc l g) (hg : isG g) : ∀ b ∈ l, Q (la b) := fun b hb => prL_Q hg _ (by rw [← a]; exact List.mem_map_of_mem hb)
theorem Acc.ascii (a : Acc l g) (hg : isG g) : ∀ b ∈ l, b.toNat < 128 := fun b hb => la_128 (a.Q hg b hb)
theorem Acc.low (a : Acc l g) (hg : isG g) : Lib.toLowerA l = prL g := by
  rw [← a]
  exact List.map_congr_left fun b hb => lower_la (a.Q hg b hb)
theorem Acc.hv (a : Acc l g) {p : Nat} (hp : p < 38) : hv (by' l p) = hv ((prL g).getD p 0).toNat := by
  have hl := a.len
  have e : (prL g).getD p 0 = la (l.getD p 0) := by
    rw [← a, List.getD, List.getD, List.getElem?_map, List.getElem?_eq_getElem (by omega)]; rfl
  rw [e, hv_la]; rfl
theorem Acc.dig (a : Acc l g) (hg : isG g) {i : Nat} (hi : i < 16) : Go.Den.Mon.hv (by' l (pos i)) = ((g.getD i 0 / 16 : Nat) : Int) ∧ Go.Den.Mon.hv (by' l (pos i + 1)) = ((g.getD i 0 % 16 : Nat) : Int) := by
  have hp := pos_lt hi
  have hx : g.getD i 0 < 256 := by
    rw [List.getD]
    cases e : g[i]? with
    | none => decide
    | some x => exact hg.2 x (List.mem_of_getElem? e)
  rw [a.hv (by omega), a.hv (by omega), (prL_at hi).1, (prL_at hi).2]
  exact ⟨hv_hexc (by omega), hv_hexc (by omega)⟩
theorem Acc.part (a : Acc l g) (hg : isG g) : part l 16 = g := by
  apply List.ext_getElem?
  intro j
  unfold Go.Den.Mon.part
  rw [List.getElem?_map]
  by_cases hj : j < 16
  · rw [List.getElem?_range hj, Option.map_some, if_pos hj, List.getElem?_eq_getElem (by rw [hg.1]; exact hj)]
    have h := a.dig hg hj
    have e : g.getD j 0 = g[j]'(by rw [hg.1]; exact hj) := by rw [List.getD, List.getElem?_eq_getElem]; rfl
    rw [e] at h
    unfold val
    rw [h.1, h.2]
    congr 1
    omega
  · rw [List.getElem?_eq_none (by simp; omega), List.getElem?_eq_none (by rw [hg.1]; omega)]; rfl
theorem Acc.acc (a : Acc l g) (hg : isG g) : acc l (Lib.toLowerA l) := ⟨a.len, fun i hi => by
  have h := a.dig hg hi
  exact ⟨by rw [h.1]; omega, by rw [h.2]; omega⟩, by rw [a.part hg, a.low hg]⟩
theorem acc_self (hg : isG g) : Acc (prL g) g := by
  show (prL g).map la = prL g
  conv => rhs; rw [← List.map_id (prL g)]
  exact List.map_congr_left fun b hb => la_Q (prL_Q hg b hb)
end
/-! ### What the document reads, digit by digit -/
def lead (g : List Nat) (k : Nat) : List Nat := (List.range 16).map fun j => if j < k then g.getD j 0 else 0
/-! ### Bytes beyond ASCII -/
theorem hv_128 {n : Nat} (h : 0 ≤ hv n) : n < 128 := by
  unfold hv at h
  split at h
  · omega
  · split at h
    · omega
    · split at h
      · omega
      · omega
theorem Acc_acc {l : List UInt8} {g : List Nat} (hg : isG g) (a : Acc l g) : acc l (Lib.toLowerD l) := by
  rw [Lib.toLowerD_ascii l (a.ascii hg)]; exact a.acc hg
end Go.Den.Mon
end

section
set_option linter.unusedVariables false
set_option maxRecDepth 100000
namespace Go.Den.Mon
open Go Go.Den
variable {h : Hp} {K : Value → Hp → Prop}
def str (l : List UInt8) : ByteArray := ⟨l.toArray⟩
theorem str_l {l : List UInt8} : (str l).data.toList = l := by simp [str]
theorem str_self {s : ByteArray} : str s.data.toList = s := by unfold str; simp
theorem str_size {l : List UInt8} : (str l).size = l.length := by rw [Lib.size_eq, str_l]
theorem str_get {l : List UInt8} {p : Nat} {c : UInt8} (hp : l[p]? = some c) : (str l)[p]? = some c := ba_some (by rw [str_l]; exact hp)
theorem sub_eq {s : ByteArray} {lo hi : Nat} : (⟨((#[] ++ Array.extract (ByteArray.data s) lo (lo + (hi - lo))) ++ Array.extract #[] (0 + Min.min (hi - lo) ((ByteArray.data s).size - lo)) 0)⟩ : ByteArray) = str ((s.data.toList.drop lo).take (hi - lo)) := by
  unfold str
  congr 1
  apply Array.ext'
  simp only [Array.toList_append, Array.toList_extract, List.toList_toArray, List.nil_append]
  simp [List.extract_eq_take_drop]
theorem cut1 {c : UInt8} {l : List UInt8} : (⟨((#[] ++ Array.extract (ByteArray.data (str (c :: l))) ((1 : Int).toNat) ((1 : Int).toNat + ((str (c :: l)).size - (1 : Int).toNat))) ++ Array.extract #[] (0 + Min.min ((str (c :: l)).size - (1 : Int).toNat) ((ByteArray.data (str (c :: l))).size - (1 : Int).toNat)) 0)⟩ : ByteArray) = str l := by
  rw [sub_eq, str_l, str_size]
  show str (l.take (l.length + 1 - 1)) = _
  rw [Nat.add_sub_cancel, List.take_length]
def sgn (c : UInt8) : Bool := spc c && !(c.toNat == 92)
theorem sgn_neg (c : UInt8) : decide (Lib.indexByte signs.data.toList c < 0) = !sgn c := by
  have := idx_sign c
  unfold sgn
  rw [← this, ← decide_not]
  exact decide_eq_decide.2 (by omega)
def rdItem : List UInt8 → Option (List UInt8 × List UInt8)
  | [] => some ([], [])
  | c :: l => if sgn c then some ([], c :: l) else if c = 92 then (match l with | [] => none | d :: l' => if spc d then (rdItem l').map fun q => (d :: q.1, q.2) else none) else (rdItem l).map fun q => (c :: q.1, q.2)
theorem rdItem_c {c : UInt8} {l : List UInt8} : rdItem (c :: l) = if sgn c then some ([], c :: l) else if c = 92 then (match l with | [] => none | d :: l' => if spc d then (rdItem l').map fun q => (d :: q.1, q.2) else none) else (rdItem l).map fun q => (c :: q.1, q.2) := by
  conv => lhs; rw [rdItem.eq_def]
theorem sgn92 : sgn 92 = false := by decide +kernel
theorem nat92 {c : UInt8} : ((c.toNat : Int) == 92) = decide (c = 92) := by
  rw [Bool.eq_iff_iff, beq_iff_eq, decide_eq_true_iff]
  constructor
  · intro q
    rw [← toU8 c, show c.toNat = 92 by omega]; rfl
  · rintro rfl; rfl
theorem item_spec {l : List UInt8} (hl : l.length < 500000) (k1 : ∀ t r, rdItem l = some (t, r) → ∀ h', Step [] h [] h' → K (.tuple #[.string (str t), .string (str r), .bool true]) h')
    (k0 : rdItem l = none → ∀ h', Step [] h [] h' → K (.tuple #[.string (⟨#[]⟩ : ByteArray), .string (⟨#[]⟩ : ByteArray), .bool false]) h') : HC P moniker_item.n #[.string (str l)] h K := by
  refine moniker_item.hc ?_
  unfold moniker_item
  obtain ⟨I0, hI0⟩ : ∃ I0 : List Value → Hp → Prop, I0 = fun vs hh => ∃ (t r : List UInt8) (a : Option Addr) (c : Nat) (o : List Nat), vs = [.string (⟨#[]⟩ : ByteArray), .string (⟨#[]⟩ : ByteArray), .bool false, .slice a t.length c, .string (str r)] ∧ t.length + r.length ≤ l.length ∧ rdItem l = (rdItem r).map (fun q => (t ++ q.1, q.2)) ∧ RP h t a c o hh := ⟨_, rfl⟩
  obtain ⟨x0, hx0⟩ : ∃ x0 : List Value → Hp → Nat, x0 = fun vs _ => match vs with | [_, _, _, _, .string s] => s.size | _ => 0 := ⟨_, rfl⟩
  refine ⟨I0, x0, ?_, ?_⟩
  · rw [hI0]
    refine ⟨[], l, none, 0, [], rfl, by simp, ?_, ⟨.none, Step.refl _ _⟩⟩
    cases rdItem l <;> simp
  intro h0 s1 s2 b0 a0 n0 c0 s3 hin
  rw [hI0] at hin
  obtain ⟨t, r, a, c, o, he, hlen, hrd, w⟩ := hin
  have e1' : s1 = (⟨#[]⟩ : ByteArray) ∧ s2 = (⟨#[]⟩ : ByteArray) ∧ b0 = false ∧ a0 = a ∧ n0 = t.length ∧ c0 = c ∧ s3 = str r := by cases he; exact ⟨rfl, rfl, rfl, rfl, rfl, rfl, rfl⟩
  clear he
  obtain ⟨rfl, rfl, rfl, rfl, rfl, rfl, rfl⟩ := e1'
  have exit : ∀ {r'} , r' = r → (rdItem r = some ([], r)) → moniker_item.k9 a0 t.length c0 K (str r') h0 := fun {r'} er e => by
    subst er
    unfold moniker_item.k9
    refine bytesStr_wp w.sl.src ⟨_, rfl, k1 t r' ?_ h0 w.st.forget0⟩
    rw [hrd, e]; simp
  have fail : rdItem r = none → K (.tuple #[.string (⟨#[]⟩ : ByteArray), .string (⟨#[]⟩ : ByteArray), .bool false]) h0 := fun e => k0 (by rw [hrd, e]; rfl) h0 w.st.forget0
  rw [str_size]
  refine bcase_intro (fun hc => ?_) fun hc => ?_
  case refine_2 =>
    have : r = [] := List.length_eq_zero_iff.1 (by have := of_decide_eq_false hc; omega)
    exact exit rfl (by rw [this]; rfl)
  obtain ⟨d, r, rfl⟩ : ∃ d r', r = d :: r' := by
    cases r with
    | nil => simp at hc
    | cons d r => exact ⟨d, r, rfl⟩
  simp only [List.length_cons] at hlen
  -- one byte more
  have more : ∀ (e : UInt8) (r2 : List UInt8) (a' : Option Addr) (c' : Nat) (o' : List Nat) (h' : Hp), r2.length ≤ r.length → rdItem (d :: r) = (rdItem r2).map (fun q => (e :: q.1, q.2)) → RP h (t ++ [e]) a' c' o' h' →
      I0 [.string (⟨#[]⟩ : ByteArray), .string (⟨#[]⟩ : ByteArray), .bool false, .slice a' (t ++ [e]).length c', .string (str r2)] h' ∧ x0 [.string (⟨#[]⟩ : ByteArray), .string (⟨#[]⟩ : ByteArray), .bool false, .slice a' (t ++ [e]).length c', .string (str r2)] h' < x0 [.string (⟨#[]⟩ : ByteArray), .string (⟨#[]⟩ : ByteArray), .bool false, .slice a0 t.length c0, .string (str (d :: r))] h0 := fun e r2 a' c' o' h' le er w' => by
    refine ⟨?_, ?_⟩
    · rw [hI0]
      refine ⟨t ++ [e], r2, a', c', o', rfl, by simp; omega, ?_, w'⟩
      rw [hrd, er, Option.map_map]
      congr 1
      funext q
      simp
    · rw [hx0]
      show (str r2).size < (str (d :: r)).size
      rw [str_size, str_size, List.length_cons]; omega
  unfold moniker_item.k11
  refine ⟨by omega, d, str_get rfl, sIndex_spec ⟨_, rfl, ?_⟩⟩
  rw [toU8]
  unfold moniker_item.k10
  rw [sgn_neg]
  refine bcase_intro (fun hs => ?_) fun hs => ?_
  case refine_2 =>
    have hs : sgn d = true := by simpa using hs
    exact exit rfl (by rw [rdItem_c, if_pos hs])
  have hs : sgn d = false := by simpa using hs
  unfold moniker_item.k8
  refine ⟨by omega, d, str_get rfl, ?_⟩
  rw [nat92]
  refine bcase_intro (fun h92 => ?_) fun h92 => ?_
  · have h92 : d = 92 := of_decide_eq_true h92
    subst h92
    unfold moniker_item.k5
    rw [cut1, txt_nil, str_size, str_size]
    refine ⟨by omega, by rw [List.length_cons]; omega, bcase_intro (fun hz => ?_) fun hz => ?_⟩
    · have hz : r = [] := List.length_eq_zero_iff.1 (of_decide_eq_true hz)
      exact fail (by rw [hz, rdItem_c, if_neg (by rw [sgn92]; simp), if_pos rfl])
    have hz := of_decide_eq_false hz
    obtain ⟨e, r, rfl⟩ : ∃ e r', r = e :: r' := by
      cases r with
      | nil => simp at hz
      | cons e r => exact ⟨e, r, rfl⟩
    have hr : rdItem (92 :: e :: r) = if spc e then (rdItem r).map fun q => (e :: q.1, q.2) else none := by
      rw [rdItem_c, if_neg (by rw [sgn92]; simp), if_pos rfl]
    have push : ∀ {hX : Hp}, hX = h0 → spc e = true → moniker_item.k1 (str (92 :: e :: r)) hX a0 t.length c0 I0 (⟨#[]⟩ : ByteArray) (⟨#[]⟩ : ByteArray) false x0 h0 := fun {hX} eX hp => by
      subst eX
      unfold moniker_item.k1
      rw [cut1]
      refine ⟨by omega, e, str_get rfl, fun b6 hb6 => w.byte hb6 e (by omega) fun a' c' o' h' w' => ⟨_, _, _, rfl, ?_⟩⟩
      unfold moniker_item.k0
      rw [cut1, cut1, str_size]
      exact ⟨by omega, by rw [List.length_cons]; omega, more e r a' c' o' h' (by simp) (by rw [hr, if_pos hp]) w'⟩
    unfold moniker_item.k4
    rw [cut1]
    refine ⟨by omega, e, str_get rfl, ?_⟩
    rw [show ((e.toNat : Int) != 92) = !decide (e = 92) by rw [← nat92]; rfl]
    refine bcase_intro (fun h2 => ?_) fun h2 => ?_
    · have h2 : ¬ e = 92 := by simpa using h2
      unfold moniker_item.k3
      rw [cut1]
      refine ⟨by omega, e, str_get rfl, sIndex_spec ⟨_, rfl, ?_⟩⟩
      rw [toU8]
      unfold moniker_item.k2
      rw [sgn_neg]
      have es : sgn e = spc e := by
        unfold sgn
        rw [show (e.toNat == 92) = false by
          rw [beq_eq_false_iff_ne]
          exact fun q => h2 (by rw [← toU8 e, q]; rfl)]
        simp
      rw [es]
      refine bcase_intro (fun hp => ?_) fun hp => push rfl (by simpa using hp)
      exact fail (by rw [hr, if_neg (by simpa using hp)])
    · have h2 : e = 92 := by simpa using h2
      exact push rfl (by rw [h2]; decide +kernel)
  · have h92 : ¬ d = 92 := of_decide_eq_false h92
    have hr : rdItem (d :: r) = (rdItem r).map fun q => (d :: q.1, q.2) := by rw [rdItem_c, if_neg (by simp [hs]), if_neg h92]
    unfold moniker_item.k7
    refine ⟨by omega, d, str_get rfl, fun b8 hb8 => w.byte hb8 d (by omega) fun a' c' o' h' w' => ⟨_, _, _, rfl, ?_⟩⟩
    unfold moniker_item.k6
    rw [cut1, str_size]
    exact ⟨by omega, by rw [List.length_cons]; omega, more d r a' c' o' h' (Nat.le_refl _) hr w'⟩
end Go.Den.Mon
end

section
set_option linter.unusedVariables false
set_option maxRecDepth 100000
namespace Go.Den.Mon
open Go Go.Den
variable {h : Hp} {K : Value → Hp → Prop}
def kd (k : Int) : Raw := ⟨k, z16, ⟨#[]⟩, 0, none, 0, 0⟩
theorem kd_ok {k : Int} (h1 : -9223372036854775808 ≤ k) (h2 : k < 9223372036854775808) : (kd k).Ok := ⟨z16_is, by show (0 : Nat) < _; omega, ⟨h1, h2⟩, by show (0 : Nat) ≤ _; omega⟩
open Classical in
noncomputable def rd : List UInt8 → Option (Raw × List UInt8)
  | [] => none
  | c :: l =>
    if c = 33 then (rdItem l).map fun q => ({ kd 1 with txt := str q.1 }, q.2)
    else if c = 58 then (if 38 ≤ l.length ∧ acc (l.take 38) (Lib.toLowerD (l.take 38)) ∧ prL (part (l.take 38) 16) = l.take 38 then some ({ kd 2 with id := part (l.take 38) 16 }, l.drop 38) else none)
    else if c = 64 then (if 16 ≤ l.length ∧ uok (l.take 16) ∧ Lib.toLowerA (l.take 16) = l.take 16 then some ({ kd 3 with H := uv (l.take 16) }, l.drop 16) else none)
    else if c = 46 then some (kd 4, l) else none
inductive Rd (s : List UInt8) : List Raw → List UInt8 → Prop
  | nil : Rd s [] s
  | snoc {L : List Raw} {r r' : List UInt8} {x : Raw} : Rd s L r → rd r = some (x, r') → Rd s (L ++ [x]) r'
theorem cut0 {l : List UInt8} : (⟨((#[] ++ Array.extract (ByteArray.data (str l)) ((0 : Int).toNat) ((0 : Int).toNat + ((str l).size - (0 : Int).toNat))) ++ Array.extract #[] (0 + Min.min ((str l).size - (0 : Int).toNat) ((ByteArray.data (str l)).size - (0 : Int).toNat)) 0)⟩ : ByteArray) = str l := by
  rw [sub_eq, str_l, str_size]
  show str (l.take (l.length - 0)) = _
  rw [Nat.sub_zero, List.take_length]
theorem cutD {l : List UInt8} {k : Int} : (⟨((#[] ++ Array.extract (ByteArray.data (str l)) (k.toNat) (k.toNat + ((str l).size - k.toNat))) ++ Array.extract #[] (0 + Min.min ((str l).size - k.toNat) ((ByteArray.data (str l)).size - k.toNat)) 0)⟩ : ByteArray) = str (l.drop k.toNat) := by
  rw [sub_eq, str_l, str_size, ← List.length_drop, List.take_length]
theorem cutT {l : List UInt8} {k : Int} : (⟨((#[] ++ Array.extract (ByteArray.data (str l)) 0 (0 + (k.toNat - 0))) ++ Array.extract #[] (0 + Min.min (k.toNat - 0) ((ByteArray.data (str l)).size - 0)) 0)⟩ : ByteArray) = str (l.take k.toNat) := by
  rw [sub_eq, str_l, Nat.sub_zero, List.drop_zero]
theorem idx_kinds : ((List.range 256).all fun n => Lib.indexByte signs.data.toList n.toUInt8 == (if n = 33 then 0 else if n = 58 then 1 else if n = 64 then 2 else if n = 46 then 3 else -1)) = true := by decide +kernel
theorem idx_kind (c : UInt8) : Lib.indexByte signs.data.toList c = if c = 33 then 0 else if c = 58 then 1 else if c = 64 then 2 else if c = 46 then 3 else -1 := by
  have := List.all_eq_true.1 idx_kinds c.toNat (List.mem_range.2 (UInt8.toNat_lt c))
  rw [beq_iff_eq, toU8] at this
  rw [this]
  have q : ∀ k : UInt8, (c.toNat = k.toNat) = (c = k) := fun k => propext ⟨fun e => by rw [← toU8 c, e, toU8], fun e => by rw [e]⟩
  have q1 := q 33; have q2 := q 58; have q3 := q 64; have q4 := q 46
  simp only [show (33 : UInt8).toNat = 33 from rfl, show (58 : UInt8).toNat = 58 from rfl, show (64 : UInt8).toNat = 64 from rfl, show (46 : UInt8).toNat = 46 from rfl] at q1 q2 q3 q4
  simp only [q1, q2, q3, q4]
theorem monPush {hh : Hp} {b4 : Nat} {x : Raw} {a : Option Addr} {c : Nat} {out : List Raw} {o : List Nat} {C : Value → Hp → Prop} (k : x.Ok) (s : SlAt hh T.api_Moniker 20 AnyV a out.length c (mcs out) o) (hb4 : hh b4 = none) (hn : out.length < 1000000)
    (hk : ∀ a' c' o' h', SlAt h' T.api_Moniker 20 AnyV a' (out ++ [x]).length c' (mcs (out ++ [x])) o' → Step o hh o' h' → C (.slice a' (out ++ [x]).length c') h') :
    wpSem P (Builtin.append_ #[T.sl_api_Moniker, T.sl_api_Moniker] T.sl_api_Moniker #[.slice a out.length c, .slice (some ⟨b4, 0, none⟩) 1 1]) C (hh.put b4 (.cells (Array.mk (catA (mc x).toArray [])) T.api_Moniker (0, 0))) := by
  have n4 : ∀ q ∈ o, q ≠ b4 := fun q hq z => s.mem q hq (by rw [z]; exact hb4)
  refine append_wp (P := P) (Z := AnyV) (n := 1) slMon slMon.1 (s.keep fun q hq => put_ne (n4 q hq)) (fun _ _ _ _ _ _ => trivial) (src_one k) mcs_cellish (by omega) fun a' c' o' h' s' _ st => ?_
  have e : mcs out ++ mcs [x] = mcs (out ++ [x]) := by simp [mcs]
  have en : out.length + 1 = (out ++ [x]).length := by simp
  rw [e, en] at s'
  rw [en]
  exact hk a' c' o' h' s' ((Step.put (.inr hb4)).trans st)
structure PS (h : Hp) (b0 : Nat) (l0 : List UInt8) (L : List Raw) (a : Option Addr) (c : Nat) (o : List Nat) (hh : Hp) : Prop where
  sl : SlAt hh T.api_Moniker 20 AnyV a L.length c (mcs L) o
  z : hh b0 = some (.cells zMon T.api_Moniker (0, 0))
  nb : b0 ∉ o
  f0 : h b0 = none
  st : Step [] h (o ++ [b0]) hh
  ok : ∀ r ∈ L, r.Ok
  pl : ∀ r ∈ L, r.sn = 0 ∧ r.sa = none ∧ r.sc = 0 ∧ 1 ≤ r.kind ∧ r.kind ≤ 4
section
variable {b0 : Nat} {l0 : List UInt8} {L : List Raw} {a : Option Addr} {c : Nat} {o : List Nat} {hh h' : Hp}
theorem PS.step (w : PS h b0 l0 L a c o hh) (s : Step [] hh [] h') : PS h b0 l0 L a c o h' :=
  ⟨w.sl.keep fun q hq => s.keep q (w.sl.mem q hq) (by simp), s.keepB0 w.z, w.nb, w.f0, w.st.trans (by simpa using s.frame (o ++ [b0])), w.ok, w.pl⟩
theorem PS.wr {own : List Nat} (w : PS h b0 l0 L a c o hh) (s : Step own hh own h') (h1 : b0 ∉ own) (h2 : ∀ q ∈ o, q ∉ own) (h3 : ∀ q ∈ own, h q = none) : PS h b0 l0 L a c o h' := by
  refine ⟨w.sl.keep fun q hq => s.keep q (w.sl.mem q hq) (h2 q hq), by rw [s.keep b0 (by rw [w.z]; simp) h1]; exact w.z, w.nb, w.f0, ?_, w.ok, w.pl⟩
  have base := w.st
  refine ⟨fun k hk hn => ?_, fun k hk => base.own k hk, fun k hk => s.dom k (base.dom k hk)⟩
  rw [s.keep k (base.dom k hk) fun z => hk (h3 k z)]
  exact base.keep k hk hn
theorem PS.toH (w : PS h b0 l0 L a c o hh) : Step [] h [] hh := w.st.forget0
theorem PS.free (w : PS h b0 l0 L a c o hh) {b : Nat} (hb : hh b = none) : h b = none := Classical.byContradiction fun e => w.st.dom b e hb
theorem fail0 {h3 : Hp} {b5 : Nat} {y : Raw} (k : y.Ok) (hb5 : h3 b5 = none) (z : h3 b0 = some (.cells zMon T.api_Moniker (0, 0))) (f0 : h b0 = none) (s3 : Step [] h [] h3) (hx : ∀ h', Step [] h [] h' → K (.tuple #[.agg (mc nl).toArray, .int .i64 18]) h') : moniker_Parse.k0 h3 b5 (mc y).toArray b0 K := by
  have n50 : b0 ≠ b5 := fun e => by rw [← e, z] at hb5; cases hb5
  unfold moniker_Parse.k0
  rw [newM k hb5]
  refine ⟨trivial, rfl, by simp [cellish], retM2 (y := nl) (C := fun v hh => K (.tuple #[v, .int .i64 18]) hh) nl_ok (by rw [put_ne n50]; exact z) (hx _ ?_)⟩
  have s4 : Step [] h [] (h3.put b5 (.cells (mc y).toArray T.api_Moniker (0, 0))) := s3.trans (Step.put (.inr hb5))
  refine ⟨fun q hq _ => ?_, by simp, fun q hq => ?_⟩
  · rw [put_ne fun e => hq (by rw [e]; exact f0)]
    exact s4.keep q hq (by simp)
  · unfold Hp.put; split
    · simp
    · exact s4.dom q hq
theorem PS.of (w : PS h b0 l0 L a c o hh) {C : Value → Hp → Prop} (hC : ∀ y n h3, y.Ok → PS h b0 l0 L a c o h3 → C (.tuple #[.agg (mc y).toArray, .int .i64 n]) h3) : HC P moniker_of.n #[.slice a L.length c] hh C :=
  gOf_got w.sl.src w.ok (fun _ h3 s3 => hC _ _ h3 (ofRaw_ok w.ok) (w.step s3)) fun _ h3 s3 => hC _ _ h3 nl_ok (w.step s3)
end
end Go.Den.Mon
end

section
set_option linter.unusedVariables false
set_option maxRecDepth 100000
namespace Go.Den.Mon
open Go Go.Den
variable {h : Hp} {K : Value → Hp → Prop}
theorem rdItem_len : ∀ {l t r : List UInt8}, rdItem l = some (t, r) → t.length + r.length ≤ l.length
  | [], t, r, e => by rw [rdItem] at e; cases e; simp
  | c :: l, t, r, e => by
    rw [rdItem_c] at e
    split at e
    · cases e; simp
    · split at e
      · cases l with
        | nil => cases e
        | cons d l =>
          simp only at e
          split at e
          · obtain ⟨⟨t', r'⟩, e1, e2⟩ := Option.map_eq_some_iff.1 e
            cases e2
            have := rdItem_len e1
            simp; omega
          · cases e
      · obtain ⟨⟨t', r'⟩, e1, e2⟩ := Option.map_eq_some_iff.1 e
        cases e2
        have := rdItem_len e1
        simp; omega
theorem toList_str {l : List UInt8} : ByteArray.toList (str l) = l := by rw [ByteArray.toList_eq, str_l]
theorem beq_dec {l m : List UInt8} : (l == m) = decide (l = m) := by rw [Bool.eq_iff_iff, beq_iff_eq, decide_eq_true_iff]
theorem idx_none : ∀ {l : List UInt8} {c : UInt8}, c ∉ l → Lib.indexByte l c = -1
  | [], _, _ => rfl
  | b :: l, c, hn => by
    have h1 : ¬ b = c := fun e => hn (by simp [e])
    have h2 := idx_none (l := l) (c := c) fun m => hn (by simp [m])
    unfold Lib.indexByte
    rw [if_neg (by simpa using h1), if_pos (by rw [h2]; rfl)]
theorem contains95 {l : List UInt8} (hl : l.length = 16) (ok : uok l) (hk : K (.bool false) h) : HC P strings_Contains.n #[.string (str l), .string (⟨#[95]⟩ : ByteArray)] h K := by
  have nin : (95 : UInt8) ∉ l := fun m => by
    have := ok 95 m
    revert this
    decide +kernel
  refine strings_Contains.hc ?_
  unfold strings_Contains
  refine strings_Index.hc ?_
  unfold strings_Index
  refine internal_stringslite_Index.hc ?_
  unfold internal_stringslite_Index
  refine bcF rfl ?_
  unfold internal_stringslite_Index.k38
  rw [toList_str]
  refine bcF ?_ ?_
  · rw [beq_eq_false_iff_ne]
    intro e
    have := congrArg List.length e
    rw [hl] at this
    revert this
    decide +kernel
  unfold internal_stringslite_Index.k37
  refine bcT rfl ?_
  unfold internal_stringslite_Index.k0
  refine ⟨by omega, 95, rfl, ?_⟩
  refine internal_stringslite_IndexByte.hc ?_
  unfold internal_stringslite_IndexByte
  refine indexByte_wp ⟨_, rfl, _, rfl, _, rfl, _, rfl, ?_⟩
  rw [str_l, show (UInt8.toNat 95).toUInt8 = 95 from rfl, idx_none nin]
  exact hk
abbrev ZK (k : Int) : Array Value := #[.int .i64 k, .int .u8 0, .int .u8 0, .int .u8 0, .int .u8 0, .int .u8 0, .int .u8 0, .int .u8 0, .int .u8 0, .int .u8 0, .int .u8 0, .int .u8 0, .int .u8 0, .int .u8 0, .int .u8 0, .int .u8 0, .int .u8 0, .string (⟨#[]⟩ : ByteArray), .int .u64 0, .slice none 0 0]
theorem kdM {k : Int} (kk : (kd k).Ok) {h0 : Hp} {b : Nat} (hb : h0 b = none) : (h0.put b (.cells zMon T.api_Moniker (0, 0))).setCells ⟨b, 0, none⟩ (ZK k) = h0.put b (.cells (mc (kd k)).toArray T.api_Moniker (0, 0)) := newM kk hb
theorem kdW {k j : Int} (e : IntKind.wrap .i64 j = k) (kk : (kd k).Ok) {h0 : Hp} {b : Nat} (hb : h0 b = none) : (h0.put b (.cells zMon T.api_Moniker (0, 0))).setCells ⟨b, 0, none⟩ (ZK (IntKind.wrap .i64 j)) = h0.put b (.cells (mc (kd k)).toArray T.api_Moniker (0, 0)) := by rw [e]; exact kdM kk hb
end Go.Den.Mon
end

section
set_option linter.unusedVariables false
set_option maxRecDepth 100000
namespace Go.Den.Mon
open Go Go.Den
variable {h : Hp} {K : Value → Hp → Prop}
section
variable {b0 : Nat} {l0 : List UInt8} {L : List Raw} {a : Option Addr} {c : Nat} {o : List Nat} {hh h' : Hp}
theorem PS.push (w : PS h b0 l0 L a c o hh) {x : Raw} (k : x.Ok) (hp : x.sn = 0 ∧ x.sa = none ∧ x.sc = 0 ∧ 1 ≤ x.kind ∧ x.kind ≤ 4) {a' : Option Addr} {c' : Nat} {o' : List Nat} (s : SlAt h' T.api_Moniker 20 AnyV a' (L ++ [x]).length c' (mcs (L ++ [x])) o') (st : Step o hh o' h') : PS h b0 l0 (L ++ [x]) a' c' o' h' := by
  refine ⟨s, by rw [st.keep b0 (by rw [w.z]; simp) w.nb]; exact w.z, fun q => ?_, w.f0, w.st.trans (st.frame [b0]), fun r hr => ?_, fun r hr => ?_⟩
  · rcases st.own b0 q with z | z
    · exact w.nb z
    · rw [w.z] at z; cases z
  · rcases List.mem_append.1 hr with z | z
    · exact w.ok r z
    · simp at z; rw [z]; exact k
  · rcases List.mem_append.1 hr with z | z
    · exact w.pl r z
    · simp at z; rw [z]; exact hp
theorem PS.exit (w : PS h b0 l0 L a c o hh) (hx : ∀ h', Step [] h [] h' → K (.tuple #[.agg (mc nl).toArray, .int .i64 18]) h') {y : Raw} (k : y.Ok) {cnd : Bool} {B : Nat → Prop} (e : cnd = true) : ∀ b : Nat, hh b = none → ((mc y).toArray.size = 20) ∧ (∀ v : Value, (v ∈ (Array.toList (mc y).toArray : List Value) → (Den.cellish v) = Bool.true)) ∧ (Free (hh.put b (.cells zMon T.api_Moniker (0, 0))) ⟨b, 0, none⟩ 20) ∧ bcase cnd (moniker_Parse.k0 hh b (mc y).toArray b0 K) (B b) :=
  fun b hb => ⟨by simpa using mc_len k, mc_cellish, freeM, bcT e (fail0 k hb w.z w.f0 w.toH hx)⟩
theorem PS.exit24 (w : PS h b0 l0 L a c o hh) (hx : ∀ h', Step [] h [] h' → K (.tuple #[.agg (mc nl).toArray, .int .i64 18]) h') {y : Raw} (k : y.Ok) : moniker_Parse.k24 hh (mc y).toArray b0 K := by
  unfold moniker_Parse.k24
  intro b hb
  have := fail0 k hb w.z w.f0 w.toH hx
  unfold moniker_Parse.k0 at this
  exact ⟨by simpa using mc_len k, mc_cellish, freeM, this⟩
end
open Classical in
set_option maxHeartbeats 1000000 in
theorem rdBody (en : Env h) {b0 : Nat} {l0 : List UInt8} {L : List Raw} {a : Option Addr} {c : Nat} {o : List Nat} {h0 : Hp} {ch : UInt8} {r : List UInt8} {I0 : List Value → Hp → Prop} {x0 : List Value → Hp → Nat} (w : PS h b0 l0 L a c o h0) (hl : r.length < 100000) (ln : L.length ≤ 64)
    (no : rd (ch :: r) = none → ∀ h', Step [] h [] h' → K (.tuple #[.agg (mc nl).toArray, .int .i64 18]) h')
    (yes : ∀ x rest, rd (ch :: r) = some (x, rest) → rest.length ≤ r.length → ∀ a' c' o' h', PS h b0 l0 (L ++ [x]) a' c' o' h' → I0 [.bool true, .string (str rest), .slice a' (L ++ [x]).length c'] h' ∧ x0 [.bool true, .string (str rest), .slice a' (L ++ [x]).length c'] h' < x0 [.bool true, .string (str (ch :: r)), .slice a L.length c] h0) :
    moniker_Parse.k53 (str (ch :: r)) h0 a L.length c b0 K I0 x0 true := by
  unfold moniker_Parse.k53
  refine ⟨by omega, ch, str_get rfl, sIndex_spec ⟨_, rfl, ?_⟩⟩
  rw [toU8, idx_kind]
  unfold moniker_Parse.k52
  have sz1 : ((1 : Int) ≤ ((str (ch :: r)).size : Int)) := by rw [str_size, List.length_cons]; omega
  have pos0 : decide ((0 : Int) ≤ ((str r).size : Int)) = true := decide_eq_true (by omega)
  refine ⟨trivial, fun b3 hb3 => ⟨rfl, by simp [cellish], freeM, by omega, sz1, ?_⟩⟩
  have f3 := w.free hb3
  have n03 : b0 ≠ b3 := fun e => by rw [← e, w.z] at hb3; cases hb3
  have n3o : ∀ q ∈ o, q ≠ b3 := fun q hq e => w.sl.mem q hq (by rw [e]; exact hb3)
  have own3 : ∀ {own : List Nat}, own = [b3] → b0 ∉ own ∧ (∀ q ∈ o, q ∉ own) ∧ ∀ q ∈ own, h q = none := fun {own} e => by
    subst e
    exact ⟨by simpa using n03, fun q hq => by simpa using n3o q hq, fun q hq => by simp at hq; rw [hq]; exact f3⟩
  obtain ⟨p1, p2, p3⟩ := own3 rfl
  -- the last step of each: the part is laid behind the others
  have push : ∀ {hX : Hp} {x : Raw} {rest : List UInt8} {B : Value → Hp → Prop}, PS h b0 l0 L a c o hX → MB hX b3 x → x.Ok → (x.sn = 0 ∧ x.sa = none ∧ x.sc = 0 ∧ 1 ≤ x.kind ∧ x.kind ≤ 4) →
      (∀ a' c' o' h', PS h b0 l0 (L ++ [x]) a' c' o' h' → B (.slice a' (L ++ [x]).length c') h') →
      ∃ cs7 : Array Value, (CellsAt hX ⟨b3, 0, none⟩ 20 cs7) ∧ ((cs7.size = 20) ∧ (∀ v : Value, (v ∈ (Array.toList cs7 : List Value) → (Den.cellish v) = Bool.true)) ∧ True) ∧ (∀ b7 : Nat, (hX b7 = none → wpSem P (Builtin.append_ #[T.sl_api_Moniker, T.sl_api_Moniker] T.sl_api_Moniker #[.slice a L.length c, .slice (some ⟨b7, 0, none⟩) 1 1]) B (hX.put b7 (.cells (Array.mk (catA cs7 [])) T.api_Moniker (0, 0))))) := fun {hX x rest B} wX M k hp hB =>
    ⟨_, M.all k, ⟨by simpa using mc_len k, mc_cellish, trivial⟩, fun b7 hb7 => monPush k wX.sl hb7 (by omega) fun a' c' o' h' s' st' => hB a' c' o' h' (wX.push k hp s' st')⟩
  by_cases c33 : ch = 33
  · rw [if_pos c33]
    have kk : (kd 1).Ok := kd_ok (by omega) (by omega)
    have kM := kdW (j := 1 + 0) (k := 1) (by decide +kernel) kk hb3
    have er : rd (ch :: r) = (rdItem r).map fun q => ({ kd 1 with txt := str q.1 }, q.2) := by rw [rd, if_pos c33]
    rw [kM]
    have w1 : PS h b0 l0 L a c o (h0.put b3 (.cells (mc (kd 1)).toArray T.api_Moniker (0, 0))) := w.step (Step.put (.inr hb3))
    have M1 : MB (h0.put b3 (.cells (mc (kd 1)).toArray T.api_Moniker (0, 0))) b3 (kd 1) := put_self
    refine ⟨1, by rw [Addr.add_mk]; exact M1.kind, bcT rfl ?_⟩
    unfold moniker_Parse.k15
    rw [cut1, kM]
    generalize h0.put b3 (.cells (mc (kd 1)).toArray T.api_Moniker (0, 0)) = H1 at w1 M1 ⊢
    have sc : ∀ {h2 : Hp} {s : ByteArray}, Step [] H1 [] h2 → MB h2 b3 (kd 1) ∧ PS h b0 l0 L a c o (h2.setCell ⟨b3, 17, none⟩ (.string s)) ∧ MB (h2.setCell ⟨b3, 17, none⟩ (.string s)) b3 { kd 1 with txt := s } := fun {h2 s} s2 => by
      have M2 := M1.step s2
      exact ⟨M2, (w1.step s2).wr (own := [b3]) (Step.setCell M2 (by simp)) p1 p2 p3, M2.setT kk⟩
    refine item_spec (by omega) (fun t rest e h2 s2 => ⟨_, _, _, rfl, ?_⟩) fun e h2 s2 => ⟨_, _, _, rfl, ?_⟩
    · obtain ⟨M2, w3, M3⟩ := sc (s := str t) s2
      have lt := rdItem_len e
      have pr : decide ((0 : Int) ≤ ((str rest).size : Int)) = true := decide_eq_true (by omega)
      unfold moniker_Parse.k14
      rw [Addr.add_mk, Nat.zero_add]
      refine ⟨⟨_, M2.txt kk⟩, frozen_of M2, bcF rfl ?_⟩
      unfold moniker_Parse.k13
      rw [pr]
      refine bcF rfl ?_
      unfold moniker_Parse.k12
      rw [pr]
      refine bcF rfl ?_
      unfold moniker_Parse.k11
      rw [Addr.add_mk, Nat.zero_add]
      refine ⟨by omega, by omega, push (rest := rest) w3 M3 ⟨z16_is, kk.H, kk.kind, by show (str t).size ≤ _; rw [str_size]; omega⟩ ⟨rfl, rfl, rfl, by show (1 : Int) ≤ 1 ∧ (1 : Int) ≤ 4; omega⟩ fun a' c' o' h' w' => ⟨_, _, _, rfl, ?_⟩⟩
      unfold moniker_Parse.k10
      rw [pr, cut0]
      exact yes _ rest (by rw [er, e]; rfl) (by omega) a' c' o' h' w'
    · obtain ⟨M2, w3, M3⟩ := sc (s := (⟨#[]⟩ : ByteArray)) s2
      have hx := no (by rw [er, e]; rfl)
      unfold moniker_Parse.k14
      rw [Addr.add_mk, Nat.zero_add]
      refine ⟨⟨_, M2.txt kk⟩, frozen_of M2, bcT rfl ?_⟩
      unfold moniker_Parse.k7
      rw [Addr.add_mk, Nat.zero_add]
      refine w3.of fun y n h3 ky w4 => ⟨_, _, rfl, ?_⟩
      unfold moniker_Parse.k6
      exact w4.exit hx ky rfl
  rw [if_neg c33]
  by_cases c58 : ch = 58
  · rw [if_pos c58]
    have kk : (kd 2).Ok := kd_ok (by omega) (by omega)
    have kM := kdW (j := 1 + 1) (k := 2) (by decide +kernel) kk hb3
    have er : rd (ch :: r) = if 38 ≤ r.length ∧ acc (r.take 38) (Lib.toLowerD (r.take 38)) ∧ prL (part (r.take 38) 16) = r.take 38 then some ({ kd 2 with id := part (r.take 38) 16 }, r.drop 38) else none := by
      rw [rd, if_neg c33, if_pos c58]
    rw [kM]
    have w1 : PS h b0 l0 L a c o (h0.put b3 (.cells (mc (kd 2)).toArray T.api_Moniker (0, 0))) := w.step (Step.put (.inr hb3))
    have M1 : MB (h0.put b3 (.cells (mc (kd 2)).toArray T.api_Moniker (0, 0))) b3 (kd 2) := put_self
    refine ⟨2, by rw [Addr.add_mk]; exact M1.kind, bcF rfl ?_⟩
    unfold moniker_Parse.k51
    refine bcT rfl ?_
    unfold moniker_Parse.k28
    rw [cut1]
    refine bcase_intro (fun q => ?_) fun q => ?_
    · have q : ¬ 38 ≤ r.length := by rw [str_size] at q; simp at q; omega
      have hx := no (by rw [er, if_neg fun z => q z.1])
      unfold moniker_Parse.k17
      rw [kM]
      refine w1.of fun y n h3 ky w4 => ⟨_, _, rfl, ?_⟩
      unfold moniker_Parse.k16
      rw [cut1]
      exact w4.exit hx ky (by rw [str_size, decide_eq_false (by omega)]; rfl)
    have q : 38 ≤ r.length := by rw [str_size] at q; simp at q; omega
    have z38 : (38 : Int) ≤ ((str r).size : Int) := by rw [str_size]; omega
    unfold moniker_Parse.k27
    rw [cut1, cutT, kM]
    refine ⟨by omega, z38, ?_⟩
    rw [show (38 : Int).toNat = 38 from rfl]
    generalize h0.put b3 (.cells (mc (kd 2)).toArray T.api_Moniker (0, 0)) = H1 at w1 M1 ⊢
    have low : (str (r.take 38)).data.toList.length = 38 → Low (str (r.take 38)) (Lib.toLowerD (r.take 38)) H1 := fun _ h1 C s1 hC => by
      have := lower_any (s := str (r.take 38)) (K := C) (by rw [str_size, List.length_take]; omega) ((en.step w1.toH).tabs.step s1) (by rw [str_l]; exact hC)
      exact this
    -- what both ends of the call share
    have mid : ∀ (g : List Nat) (n8 : Int) (h8 : Hp), isG g → Step [] H1 [] h8 → (n8 = 0 → acc (r.take 38) (Lib.toLowerD (r.take 38)) ∧ g = part (r.take 38) 16) → (n8 ≠ 0 → ¬ acc (r.take 38) (Lib.toLowerD (r.take 38))) → moniker_Parse.k26 h8 (gcs g) b3 n8 (str (ch :: r)) a L.length c b0 K I0 x0 true h0 := fun g n8 h8 hg s8 good bad => by
      unfold moniker_Parse.k26
      intro b9 hb9
      have M8 := M1.step s8
      have w8 := w1.step s8
      have n93 : b9 ≠ b3 := fun e => by rw [e, M8] at hb9; cases hb9
      have n9 : b0 ≠ b9 := fun e => by rw [← e, w8.z] at hb9; cases hb9
      have eY : (h8.put b9 (.cells zGuid T.api_Guid (0, 0))).setCells ⟨b9, 0, none⟩ (gcs g) = h8.put b9 (.cells (gcs g) T.api_Guid (0, 0)) := by
        rw [setCells_blk (z := zGuid) put_self (by rw [gcs_size, hg.1]; rfl), put_put]
      have sY : Step [] h8 [] (h8.put b9 (.cells (gcs g) T.api_Guid (0, 0))) := Step.put (.inr hb9)
      have MY := M8.step sY
      have wY := w8.step sY
      rw [eY]
      obtain ⟨eX, fX⟩ := MY.setId kk hg.1
      have MX : MB ((h8.put b9 (.cells (gcs g) T.api_Guid (0, 0))).put b3 (.cells (mc { kd 2 with id := g }).toArray T.api_Moniker (0, 0))) b3 { kd 2 with id := g } := put_self
      have wX : PS h b0 l0 L a c o ((h8.put b9 (.cells (gcs g) T.api_Guid (0, 0))).put b3 (.cells (mc { kd 2 with id := g }).toArray T.api_Moniker (0, 0))) := wY.wr (own := [b3]) (Step.put (.inl (by simp))) p1 p2 p3
      have c9 : CellsAt ((h8.put b9 (.cells (gcs g) T.api_Guid (0, 0))).put b3 (.cells (mc { kd 2 with id := g }).toArray T.api_Moniker (0, 0))) ⟨b9, 0, none⟩ 16 (gcs g) := cellsAt_blk (T := T.api_Guid) (f := (0, 0)) (by rw [put_ne n93, put_self]) (by rw [gcs_size, hg.1])
      have kg : ({ kd 2 with id := g } : Raw).Ok := ⟨hg, kk.H, kk.kind, kk.txt⟩
      refine ⟨by rw [gcs_size, hg.1], gcs_cellish, free_blk put_self rfl, gcs g, cellsAt_blk put_self (by rw [gcs_size, hg.1]), by rw [gcs_size, hg.1], gcs_cellish, by rw [Addr.add_mk]; exact fX, bcase_intro (fun q0 => ?_) fun q0 => ?_⟩
      · have q0 : n8 = 0 := by simpa using q0
        obtain ⟨g1, g2⟩ := good q0
        unfold moniker_Parse.k23
        rw [eY, Addr.add_mk, Nat.zero_add, eX]
        refine ⟨_, c9, gPrint_spec hg fun h9 s9 => ⟨_, rfl, ?_⟩⟩
        have M9 := MX.step s9
        have w9 := wX.step s9
        obtain ⟨pg, hpg⟩ : ∃ pg, pg = prL g := ⟨_, rfl⟩
        have cmp : (ByteArray.toList (prS g) == ByteArray.toList (str (r.take 38))) = decide (pg = r.take 38) := by
          rw [toList_str, ByteArray.toList_eq, prS_list, beq_dec, hpg]
        unfold moniker_Parse.k22
        rw [cut1, cutT, show (38 : Int).toNat = 38 from rfl, cmp]
        refine ⟨by omega, z38, bcase_intro (fun q1 => ?_) fun q1 => ?_⟩
        · have q1' : ¬ pg = r.take 38 := by simpa using q1
          have hx := no (by rw [er, if_neg fun z => q1' (by rw [hpg, g2]; exact z.2.2)])
          unfold moniker_Parse.k19
          refine w9.of fun y n h3 ky w4 => ⟨_, _, rfl, ?_⟩
          unfold moniker_Parse.k18
          rw [cut1, cutT, show (38 : Int).toNat = 38 from rfl, cmp]
          exact w4.exit hx ky q1
        · have q1' : pg = r.take 38 := by simpa using q1
          unfold moniker_Parse.k21
          rw [cut1]
          refine ⟨by omega, z38, push (rest := r.drop 38) w9 M9 kg ⟨rfl, rfl, rfl, by show (1 : Int) ≤ 2 ∧ (2 : Int) ≤ 4; omega⟩ fun a' c' o' h' w' => ⟨_, _, _, rfl, ?_⟩⟩
          unfold moniker_Parse.k20
          rw [cut1, cutT, cutD, show (38 : Int).toNat = 38 from rfl, cmp, decide_eq_true q1']
          exact yes _ _ (by rw [er, if_pos ⟨q, g1, by rw [← g2, ← hpg]; exact q1'⟩, g2]) (by rw [List.length_drop]; omega) a' c' o' h' w'
      · have q0 : n8 ≠ 0 := by simpa using q0
        have hx := no (by rw [er, if_neg fun z => bad q0 z.2.1])
        unfold moniker_Parse.k25
        rw [eY, Addr.add_mk, Nat.zero_add, eX]
        exact wX.of fun y n h3 ky w4 => ⟨_, _, rfl, w4.exit24 hx ky⟩
    refine gParse_spec low (fun ac h8 s8 => ⟨_, _, rfl, ?_⟩) fun nac h8 s8 => ⟨_, _, rfl, ?_⟩
    · rw [str_l] at ac ⊢
      exact mid _ 0 h8 (part_is _ _) s8 (fun _ => ⟨ac, rfl⟩) (fun z => absurd rfl z)
    · rw [str_l] at nac
      rw [← gcs_z16]
      exact mid _ 5 h8 z16_is s8 (fun z => by omega) (fun _ => nac)
  rw [if_neg c58]
  by_cases c64 : ch = 64
  · rw [if_pos c64]
    have kk : (kd 3).Ok := kd_ok (by omega) (by omega)
    have kM := kdW (j := 1 + 2) (k := 3) (by decide +kernel) kk hb3
    have er : rd (ch :: r) = if 16 ≤ r.length ∧ uok (r.take 16) ∧ Lib.toLowerA (r.take 16) = r.take 16 then some ({ kd 3 with H := uv (r.take 16) }, r.drop 16) else none := by
      rw [rd, if_neg c33, if_neg c58, if_pos c64]
    rw [kM]
    have w1 : PS h b0 l0 L a c o (h0.put b3 (.cells (mc (kd 3)).toArray T.api_Moniker (0, 0))) := w.step (Step.put (.inr hb3))
    have M1 : MB (h0.put b3 (.cells (mc (kd 3)).toArray T.api_Moniker (0, 0))) b3 (kd 3) := put_self
    refine ⟨3, by rw [Addr.add_mk]; exact M1.kind, bcF rfl ?_⟩
    unfold moniker_Parse.k51
    refine bcF rfl ?_
    unfold moniker_Parse.k50
    refine bcT rfl ?_
    unfold moniker_Parse.k41
    rw [cut1]
    refine bcase_intro (fun q => ?_) fun q => ?_
    · have q : ¬ 16 ≤ r.length := by rw [str_size] at q; simp at q; omega
      have hx := no (by rw [er, if_neg fun z => q z.1])
      unfold moniker_Parse.k30
      rw [kM]
      refine w1.of fun y n h3 ky w4 => ⟨_, _, rfl, ?_⟩
      unfold moniker_Parse.k29
      rw [cut1]
      exact w4.exit hx ky (by rw [str_size, decide_eq_false (by omega)]; rfl)
    have q : 16 ≤ r.length := by rw [str_size] at q; simp at q; omega
    have z16' : (16 : Int) ≤ ((str r).size : Int) := by rw [str_size]; omega
    have l16 : (r.take 16).length = 16 := by rw [List.length_take]; omega
    unfold moniker_Parse.k40
    rw [cut1, cutT, kM]
    refine ⟨by omega, z16', ?_⟩
    rw [show (16 : Int).toNat = 16 from rfl]
    generalize h0.put b3 (.cells (mc (kd 3)).toArray T.api_Moniker (0, 0)) = H1 at w1 M1 ⊢
    have sc : ∀ {h2 : Hp} {n : Nat}, Step [] H1 [] h2 → MB h2 b3 (kd 3) ∧ PS h b0 l0 L a c o (h2.setCell ⟨b3, 18, none⟩ (.int .u64 (n : Int))) ∧ MB (h2.setCell ⟨b3, 18, none⟩ (.int .u64 (n : Int))) b3 { kd 3 with H := n } := fun {h2 n} s2 => by
      have M2 := M1.step s2
      exact ⟨M2, (w1.step s2).wr (own := [b3]) (Step.setCell M2 (by simp)) p1 p2 p3, M2.setH kk⟩
    refine parse_spec (en.step w1.toH) (by rw [str_l]; exact l16) (fun ok h2 s2 => ⟨_, _, rfl, ?_⟩) fun nok t v h2 s2 => ⟨_, _, rfl, ?_⟩
    · rw [str_l] at ok ⊢
      obtain ⟨M2, w3, M3⟩ := sc (n := uv (r.take 16)) s2
      have uvl : uv (r.take 16) < 18446744073709551616 := by have := uv_lt (l := r.take 16); rw [l16] at this; exact this
      unfold moniker_Parse.k39
      rw [Addr.add_mk, Nat.zero_add, cut1, cutT, show (16 : Int).toNat = 16 from rfl]
      refine ⟨⟨_, M2.H kk⟩, frozen_of M2, .inl ⟨rfl, by omega, z16', ?_⟩⟩
      refine lower_ascii (by rw [str_size]; omega) (fun b hb => hv_128 (ok b (by rw [str_l] at hb; exact hb))) fun h4 s4 => ⟨_, rfl, ?_⟩
      rw [str_l]
      have M4 := M3.step s4
      have w4 := w3.step s4
      have cmp : (ByteArray.toList (⟨(Lib.toLowerA (r.take 16)).toArray⟩ : ByteArray) == ByteArray.toList (str (r.take 16))) = decide (Lib.toLowerA (r.take 16) = r.take 16) := by
        rw [show (⟨(Lib.toLowerA (r.take 16)).toArray⟩ : ByteArray) = str (Lib.toLowerA (r.take 16)) from rfl, toList_str, toList_str, beq_dec]
      unfold moniker_Parse.k38
      rw [cut1, cutT, show (16 : Int).toNat = 16 from rfl, cmp]
      refine ⟨by omega, z16', bcase_intro (fun q1 => ?_) fun q1 => ?_⟩
      · have q1 := of_decide_eq_true q1
        unfold moniker_Parse.k36
        rw [cut1, cutT, show (16 : Int).toNat = 16 from rfl]
        refine ⟨by omega, z16', contains95 l16 ok ⟨_, rfl, ?_⟩⟩
        unfold moniker_Parse.k35
        refine bcF rfl ?_
        unfold moniker_Parse.k34
        rw [cut1]
        refine ⟨by omega, z16', push (rest := r.drop 16) w4 M4 ⟨z16_is, uvl, kk.kind, kk.txt⟩ ⟨rfl, rfl, rfl, by show (1 : Int) ≤ 3 ∧ (3 : Int) ≤ 4; omega⟩ fun a' c' o' h' w' => ⟨_, _, _, rfl, ?_⟩⟩
        unfold moniker_Parse.k33
        rw [cut1, cutD, show (16 : Int).toNat = 16 from rfl]
        exact yes _ _ (by rw [er, if_pos ⟨q, ok, q1⟩]) (by rw [List.length_drop]; omega) a' c' o' h' w'
      · have q1 := of_decide_eq_false q1
        have hx := no (by rw [er, if_neg fun z => q1 z.2.2])
        unfold moniker_Parse.k37
        exact w4.of fun y n h3 ky w5 => ⟨_, _, rfl, w5.exit24 hx ky⟩
    · rw [str_l] at nok
      obtain ⟨M2, w3, M3⟩ := sc (n := 0) s2
      have hx := no (by rw [er, if_neg fun z => nok z.2.1])
      unfold moniker_Parse.k39
      rw [Addr.add_mk, Nat.zero_add]
      refine ⟨⟨_, M2.H kk⟩, frozen_of M2, .inr ⟨_, _, rfl, ?_⟩⟩
      exact w3.of fun y n h3 ky w5 => ⟨_, _, rfl, w5.exit24 hx ky⟩
  rw [if_neg c64]
  by_cases c46 : ch = 46
  · rw [if_pos c46]
    have kk : (kd 4).Ok := kd_ok (by omega) (by omega)
    have kM := kdW (j := 1 + 3) (k := 4) (by decide +kernel) kk hb3
    have er : rd (ch :: r) = some (kd 4, r) := by rw [rd, if_neg c33, if_neg c58, if_neg c64, if_pos c46]
    rw [kM]
    have w1 : PS h b0 l0 L a c o (h0.put b3 (.cells (mc (kd 4)).toArray T.api_Moniker (0, 0))) := w.step (Step.put (.inr hb3))
    have M1 : MB (h0.put b3 (.cells (mc (kd 4)).toArray T.api_Moniker (0, 0))) b3 (kd 4) := put_self
    refine ⟨4, by rw [Addr.add_mk]; exact M1.kind, bcF rfl ?_⟩
    unfold moniker_Parse.k51
    refine bcF rfl ?_
    unfold moniker_Parse.k50
    refine bcF rfl ?_
    unfold moniker_Parse.k49
    refine bcT rfl ?_
    unfold moniker_Parse.k47
    rw [cut1, pos0]
    refine bcF rfl ?_
    unfold moniker_Parse.k46
    rw [cut1, pos0]
    refine bcF rfl ?_
    unfold moniker_Parse.k45
    rw [cut1, kM]
    refine ⟨by omega, by omega, push (rest := r) w1 M1 kk ⟨rfl, rfl, rfl, by show (1 : Int) ≤ 4 ∧ (4 : Int) ≤ 4; omega⟩ fun a' c' o' h' w' => ⟨_, _, _, rfl, ?_⟩⟩
    unfold moniker_Parse.k44
    rw [cut1, cut0, pos0]
    exact yes _ _ er (Nat.le_refl _) a' c' o' h' w'
  · rw [if_neg c46]
    have kk : (kd 0).Ok := kd_ok (by omega) (by omega)
    have kM := kdW (j := 1 + -1) (k := 0) (by decide +kernel) kk hb3
    have hx := no (by rw [rd, if_neg c33, if_neg c58, if_neg c64, if_neg c46])
    rw [kM]
    have w1 : PS h b0 l0 L a c o (h0.put b3 (.cells (mc (kd 0)).toArray T.api_Moniker (0, 0))) := w.step (Step.put (.inr hb3))
    have M1 : MB (h0.put b3 (.cells (mc (kd 0)).toArray T.api_Moniker (0, 0))) b3 (kd 0) := put_self
    refine ⟨0, by rw [Addr.add_mk]; exact M1.kind, bcF rfl ?_⟩
    unfold moniker_Parse.k51
    refine bcF rfl ?_
    unfold moniker_Parse.k50
    refine bcF rfl ?_
    unfold moniker_Parse.k49
    refine bcF rfl ?_
    unfold moniker_Parse.k48
    rw [kM]
    exact w1.of fun y n h3 ky w5 => ⟨_, _, rfl, w5.exit24 hx ky⟩
end Go.Den.Mon
end

section
set_option linter.unusedVariables false
set_option maxRecDepth 100000
namespace Go.Den.Mon
open Go Go.Den
/-! ### Items -/
def stopAt (r : List UInt8) : Prop := r = [] ∨ ∃ d r', r = d :: r' ∧ sgn d = true
theorem spc_ns {c : UInt8} (h : spc c = false) : sgn c = false ∧ c ≠ 92 := by
  refine ⟨by unfold sgn; rw [h]; rfl, ?_⟩
  rintro rfl
  revert h
  decide +kernel
theorem rdItem_esc {r : List UInt8} (hr : stopAt r) : ∀ t : List UInt8, rdItem (esc t ++ r) = some (t, r)
  | [] => by
    rcases hr with rfl | ⟨d, r', rfl, hd⟩
    · rfl
    · show rdItem (d :: r') = _
      rw [rdItem_c, if_pos hd]
  | c :: t => by
    have e : esc (c :: t) ++ r = e1 c ++ (esc t ++ r) := by simp [esc, List.append_assoc]
    rw [e]
    unfold e1
    split
    · rename_i hs
      show rdItem (92 :: c :: (esc t ++ r)) = _
      rw [rdItem_c, if_neg (by rw [sgn92]; simp), if_pos rfl]
      simp only [hs, if_true]
      rw [rdItem_esc hr t]; rfl
    · rename_i hs
      obtain ⟨h1, h2⟩ := spc_ns (by simpa using hs)
      show rdItem (c :: (esc t ++ r)) = _
      rw [rdItem_c, if_neg (by rw [h1]; simp), if_neg h2, rdItem_esc hr t]; rfl
/-! ### Numbers -/
theorem hf_snoc {n : Nat} : ∀ {k : Nat}, hf n (k + 1) = hf (n / 16) k ++ [hexc (n % 16)]
  | 0 => by simp [hf]
  | k + 1 => by
    have ih := hf_snoc (n := n) (k := k)
    rw [hf, ih, hf]
    simp only [List.cons_append]
    rw [Nat.div_div_eq_div_mul, Nat.pow_succ, Nat.mul_comm 16]
theorem uv_hf : ∀ {k n : Nat}, n < 16 ^ k → uv (hf n k) = n
  | 0, n, h => by simp at h; subst h; rfl
  | k + 1, n, h => by
    rw [hf_snoc, uv_snoc, uv_hf (by rw [Nat.pow_succ] at h; omega), hv_hexc (Nat.mod_lt _ (by omega))]
    simp; omega
theorem hexQ : ((List.range 16).all fun d => decide (0 ≤ hv (hexc d).toNat) && (Lib.lowerB (hexc d) == hexc d)) = true := by decide +kernel
theorem hexQ' {d : Nat} (hd : d < 16) : 0 ≤ hv (hexc d).toNat ∧ Lib.lowerB (hexc d) = hexc d := by
  have := List.all_eq_true.1 hexQ d (List.mem_range.2 hd)
  rw [Bool.and_eq_true, decide_eq_true_iff, beq_iff_eq] at this
  exact this
theorem hf_mem {n : Nat} : ∀ {k : Nat}, ∀ c ∈ hf n k, ∃ d, d < 16 ∧ c = hexc d
  | 0, c, hc => by simp [hf] at hc
  | k + 1, c, hc => by
    rw [hf] at hc
    rcases List.mem_cons.1 hc with rfl | hc
    · exact ⟨_, Nat.mod_lt _ (by omega), rfl⟩
    · exact hf_mem c hc
theorem uok_hf {n k : Nat} : uok (hf n k) := fun c hc => by
  obtain ⟨d, hd, rfl⟩ := hf_mem c hc
  exact (hexQ' hd).1
theorem low_hf {n k : Nat} : Lib.toLowerA (hf n k) = hf n k := by
  unfold Lib.toLowerA
  refine (List.map_congr_left fun c hc => ?_).trans (List.map_id _)
  obtain ⟨d, hd, rfl⟩ := hf_mem c hc
  exact (hexQ' hd).2
/-! ### Parts -/
structure Cn (r : Raw) : Prop where
  ok : r.Ok
  sn : r.sn = 0
  sa : r.sa = none
  sc : r.sc = 0
  k : r.kind = 1 ∨ r.kind = 2 ∨ r.kind = 3 ∨ r.kind = 4
  i1 : r.kind ≠ 2 → r.id = z16
  h1 : r.kind ≠ 3 → r.H = 0
  t1 : r.kind ≠ 1 → r.txt = ⟨#[]⟩
theorem Cn.of {r : Raw} (ok : r.Ok) (rp : rpart r = true) (sa : r.sa = none) (sc : r.sc = 0) : Cn r := by
  have sz : ∀ {b : ByteArray}, b.size = 0 → b = ⟨#[]⟩ := fun {b} e => by
    rw [← str_self (s := b), show b.data.toList = [] from List.length_eq_zero_iff.1 (by rw [← Lib.size_eq]; exact e)]; rfl
  unfold rpart at rp
  split at rp
  · rename_i q
    have d := of_decide_eq_true rp
    exact ⟨ok, d.2.2.1, sa, sc, .inl q, fun _ => d.1, fun _ => d.2.1, fun z => absurd q z⟩
  · split at rp
    · rename_i q
      have d := of_decide_eq_true rp
      exact ⟨ok, d.2.2, sa, sc, .inr (.inl q), fun z => absurd q z, fun _ => d.2.1, fun _ => sz d.1⟩
    · split at rp
      · rename_i q
        have d := of_decide_eq_true rp
        exact ⟨ok, d.2.2, sa, sc, .inr (.inr (.inl q)), fun _ => d.2.1, fun z => absurd q z, fun _ => sz d.1⟩
      · split at rp
        · rename_i q
          have d := of_decide_eq_true rp
          exact ⟨ok, d.2.2.2, sa, sc, .inr (.inr (.inr q)), fun _ => d.2.1, fun _ => d.2.2.1, fun _ => sz d.1⟩
        · cases rp
theorem prL_take {g r : List UInt8} (hg : g.length = 38) : (g ++ r).take 38 = g ∧ (g ++ r).drop 38 = r := by
  rw [← hg]; exact ⟨List.take_left' rfl, List.drop_left' rfl⟩
open Classical in
theorem rd_txt1 {x : Raw} (cx : Cn x) {r : List UInt8} (hr : stopAt r) : rd (txt1 x ++ r) = some (x, r) := by
  obtain ⟨kind, id, txt, H, sa, sn, sc⟩ := x
  obtain ⟨ok, c1, c2, c3, ck, i1, h1, t1⟩ := cx
  simp only at c1 c2 c3 ck i1 h1 t1
  subst c1 c2 c3
  rcases ck with q | q | q | q
  · subst q
    obtain rfl := i1 (by omega)
    obtain rfl := h1 (by omega)
    have et : txt1 ⟨1, z16, txt, 0, none, 0, 0⟩ ++ r = 33 :: (esc txt.data.toList ++ r) := by unfold txt1; rw [if_pos rfl]; rfl
    rw [et, rd, if_pos rfl, rdItem_esc hr]
    show some (({ kd 1 with txt := str txt.data.toList } : Raw), r) = _
    rw [str_self]; rfl
  · subst q
    obtain rfl := h1 (by omega)
    obtain rfl := t1 (by omega)
    have et : txt1 ⟨2, id, ⟨#[]⟩, 0, none, 0, 0⟩ ++ r = 58 :: (prL id ++ r) := by unfold txt1; rw [if_neg (by show ¬ (2 : Int) = 1; omega), if_pos rfl]; rfl
    have hg : isG id := ok.id
    obtain ⟨e1', e2⟩ := prL_take (g := prL id) (r := r) prL_38
    have ep : part (prL id) 16 = id := (acc_self hg).part hg
    rw [et, rd, if_neg (by decide), if_pos rfl, e1', e2, if_pos ⟨by rw [List.length_append, prL_38]; omega, Acc_acc hg (acc_self hg), by rw [ep]⟩, ep]
    rfl
  · subst q
    obtain rfl := i1 (by omega)
    obtain rfl := t1 (by omega)
    have et : txt1 ⟨3, z16, ⟨#[]⟩, H, none, 0, 0⟩ ++ r = 64 :: (hf H 16 ++ r) := by unfold txt1; rw [if_neg (by show ¬ (3 : Int) = 1; omega), if_neg (by show ¬ (3 : Int) = 2; omega), if_pos rfl]; rfl
    have t16 : (hf H 16 ++ r).take 16 = hf H 16 ∧ (hf H 16 ++ r).drop 16 = r := ⟨List.take_left' hf_len, List.drop_left' hf_len⟩
    have hH : H < 16 ^ 16 := ok.H
    rw [et, rd, if_neg (by decide), if_neg (by decide), if_pos rfl, t16.1, t16.2, if_pos ⟨by rw [List.length_append, hf_len]; omega, uok_hf, low_hf⟩, uv_hf hH]
    rfl
  · subst q
    obtain rfl := i1 (by omega)
    obtain rfl := h1 (by omega)
    obtain rfl := t1 (by omega)
    have et : txt1 ⟨4, z16, ⟨#[]⟩, 0, none, 0, 0⟩ ++ r = 46 :: r := by unfold txt1; rw [if_neg (by show ¬ (4 : Int) = 1; omega), if_neg (by show ¬ (4 : Int) = 2; omega), if_neg (by show ¬ (4 : Int) = 3; omega)]; rfl
    rw [et, rd, if_neg (by decide), if_neg (by decide), if_neg (by decide), if_pos rfl]
    rfl
end Go.Den.Mon
end

section
set_option linter.unusedVariables false
set_option maxRecDepth 100000
namespace Go.Den.Mon
open Go Go.Den
variable {h : Hp} {K : Value → Hp → Prop}
noncomputable def rdn : Nat → List UInt8 → Option (List Raw × List UInt8)
  | 0, s => some ([], s)
  | n + 1, s => (rdn n s).bind fun q => (rd q.2).map fun p => (q.1 ++ [p.1], p.2)
theorem Rd.rdn {s r : List UInt8} {L : List Raw} (w : Rd s L r) : rdn L.length s = some (L, r) := by
  induction w with
  | nil => rfl
  | @snoc L r r' x w e ih =>
    rw [List.length_append, List.length_singleton, Go.Den.Mon.rdn, ih]
    simp [e]
theorem rdn_stop {s r : List UInt8} {L : List Raw} {n : Nat} (e : rdn n s = some (L, r)) (hr : rd r = none) : ∀ k, rdn (n + 1 + k) s = none
  | 0 => by
    show rdn (n + 1) s = none
    rw [rdn, e]; simp [hr]
  | k + 1 => by
    show rdn (n + 1 + k + 1) s = none
    rw [rdn, rdn_stop e hr k]; rfl
theorem rd_nil : rd [] = none := by rw [rd]
theorem Rd.alike {s r : List UInt8} {L L2 : List Raw} (w : Rd s L r) (w2 : Rd s L2 []) (hr : rd r = none) : L2 = L ∧ r = [] := by
  have a := w.rdn
  have b := w2.rdn
  rcases Nat.lt_trichotomy L.length L2.length with q | q | q
  · have := rdn_stop a hr (L2.length - (L.length + 1))
    rw [show L.length + 1 + (L2.length - (L.length + 1)) = L2.length by omega, b] at this
    cases this
  · rw [q, b] at a; cases a; exact ⟨rfl, rfl⟩
  · have := rdn_stop b rd_nil (L.length - (L2.length + 1))
    rw [show L2.length + 1 + (L.length - (L2.length + 1)) = L.length by omega, a] at this
    cases this
theorem Rd.more {s r : List UInt8} {L L2 : List Raw} (w : Rd s L r) (w2 : Rd s L2 []) : L.length ≤ L2.length := by
  rcases Nat.lt_or_ge L2.length L.length with q | q
  · have := rdn_stop w2.rdn rd_nil (L.length - (L2.length + 1))
    rw [show L2.length + 1 + (L.length - (L2.length + 1)) = L.length by omega, w.rdn] at this
    cases this
  · exact q
theorem stop_txt : ∀ {L : List Raw}, stopAt (txtOf L)
  | [] => .inl rfl
  | x :: L => by
    refine .inr ?_
    have e : txtOf (x :: L) = txt1 x ++ txtOf L := rfl
    rw [e]
    unfold txt1
    split
    · exact ⟨33, _, rfl, by decide +kernel⟩
    · split
      · exact ⟨58, _, rfl, by decide +kernel⟩
      · split
        · exact ⟨64, _, rfl, by decide +kernel⟩
        · exact ⟨46, _, rfl, by decide +kernel⟩
theorem Rd.complete {L : List Raw} (c : ∀ x ∈ L, Cn x) : Rd (txtOf L) L [] := by
  have go : ∀ i, i ≤ L.length → Rd (txtOf L) (L.take i) (txtOf (L.drop i)) := by
    intro i
    induction i with
    | zero => intro _; exact .nil
    | succ i ih =>
      intro hi
      obtain ⟨x, hx⟩ : ∃ x, L[i]? = some x := ⟨_, List.getElem?_eq_getElem (by omega)⟩
      have ed : L.drop i = x :: L.drop (i + 1) := by
        have := List.getElem_of_getElem? hx
        rw [← this.2]; exact List.drop_eq_getElem_cons this.1
      rw [List.take_add_one, hx]
      refine .snoc (ih (by omega)) ?_
      rw [ed]
      exact rd_txt1 (c x (List.mem_of_getElem? hx)) stop_txt
  have := go L.length (Nat.le_refl _)
  rw [List.take_length, List.drop_length] at this
  exact this
/-! ### The program -/
theorem topW {a : Option Addr} {c : Nat} {l : List Raw} (hs : SrcAt h 20 (.slice a l.length c) l.length (mcs l)) (ok : ∀ r ∈ l, r.Ok) (pl : ∀ r ∈ l, r.sn = 0 ∧ r.sa = none ∧ r.sc = 0 ∧ 1 ≤ r.kind ∧ r.kind ≤ 4) (hn : l.length ≤ 64) :
    ∃ rows, Top h (ofRaw a c l) rows (ofTree l) ∧ (rright (ofRaw a c l) rows = true ↔ ∀ r ∈ l, rpart r = true) := by
  have leafW : ∀ r ∈ l, Top h r [] (leaf r) := fun r hr => by
    obtain ⟨p1, p2, p3, -, -⟩ := pl r hr
    have sr : SrcAt h 20 (.slice r.sa r.sn r.sc) r.sn (mcs []) := by rw [p1, p2, p3]; exact .none
    exact ⟨.mk (rows := []) (ms := []) (ok r hr) (by rw [p1]; omega) (by rw [p1]; rfl) sr (by simp) rfl (by simp), sr, by simp, by rw [p1]; rfl⟩
  match l, hs, ok, pl, hn, leafW with
  | [], _, _, _, _, _ =>
    refine ⟨[], ⟨nl_deep, .none, by simp, rfl⟩, ?_⟩
    have : rright (ofRaw a c []) [] = true := by unfold rright; rw [if_pos (show (ofRaw a c []).kind = 0 from rfl)]; exact decide_eq_true ⟨rfl, rfl, rfl, rfl⟩
    simp [this]
  | [r], _, ok, pl, _, lw =>
    refine ⟨[], lw r (by simp), ?_⟩
    have hk := pl r (by simp)
    have : rright r [] = rpart r := by unfold rright; rw [if_neg (by omega), if_neg (by omega)]
    show rright r [] = true ↔ _
    rw [this]; simp
  | r :: s :: l, hs, ok, pl, hn, lw =>
    refine ⟨r :: s :: l, ⟨.mk (x := li a (r :: s :: l).length c) (ms := (r :: s :: l).map leaf) li_ok (by show (r :: s :: l).length < _; omega) rfl hs ok (by simp) ?_, hs, ok, rfl⟩, ?_⟩
    · intro i q m hi hm
      rw [List.getElem?_map, hi] at hm
      cases hm
      exact (lw q (List.mem_of_getElem? hi)).deep
    · unfold rright
      rw [if_neg (by show ¬ ((5 : Int) = 0); omega), if_pos (show (ofRaw a c (r :: s :: l)).kind = 5 from rfl), decide_eq_true ⟨rfl, rfl, rfl, by show 2 ≤ (r :: s :: l).length; simp, hn⟩, Bool.true_and, List.all_eq_true]
theorem PS.ret {b0 : Nat} {l0 : List UInt8} {L : List Raw} {a : Option Addr} {c : Nat} {o : List Nat} {hh : Hp} {X : Obj} (w : PS h b0 l0 L a c o hh) : Step [] h [] (hh.put b0 X) := by
  refine ⟨fun q hq _ => ?_, by simp, fun q hq => ?_⟩
  · rw [put_ne fun e => hq (by rw [e]; exact w.f0)]
    exact w.toH.keep q hq (by simp)
  · unfold Hp.put; split
    · simp
    · exact w.toH.dom q hq
end Go.Den.Mon
end

section
set_option linter.unusedVariables false
set_option maxRecDepth 100000
namespace Go.Den.Mon
open Go Go.Den
variable {h : Hp} {K : Value → Hp → Prop}
def itm (l : List UInt8) : Raw := { kd 1 with txt := str l }
theorem itm_ok {l : List UInt8} (hl : l.length ≤ 256) : (itm l).Ok ∧ rpart (itm l) = true ∧ (itm l).sa = none ∧ (itm l).sc = 0 := by
  refine ⟨⟨z16_is, by show (0 : Nat) < _; omega, by show _ ≤ (1 : Int) ∧ (1 : Int) < _; omega, by show (str l).size ≤ _; rw [str_size]; omega⟩, ?_, rfl, rfl⟩
  unfold rpart
  rw [if_pos (show (itm l).kind = 1 from rfl)]
  exact decide_eq_true ⟨rfl, rfl, rfl, by show (str l).size ≤ 256; rw [str_size]; exact hl⟩
theorem Deep.says {x : Raw} {m : Mon} (d : Deep h x m) : ∃ ms, m = .mk x.kind x.id x.txt.data.toList x.H ms := by
  cases d with
  | mk _ _ _ _ _ _ _ => exact ⟨_, rfl⟩
theorem Got.two {y a b : Raw} (g : Got h [a, b] y) (ka : rpart a = true) : y.Ok ∧ y.kind = 5 ∧ y.sn = 2 ∧ SrcAt h 20 (.slice y.sa y.sn y.sc) y.sn (mcs [a, b]) := by
  obtain ⟨rows, t, e, f⟩ := g
  have hk : y.kind = 5 := by
    obtain ⟨ms, e0⟩ := t.deep.says
    injection e0 with e1' _ _ _ _
    exact e1'.symm
  have hr : rows = [a, b] := by
    unfold partsOf at e
    rw [if_neg (by omega), if_pos hk] at e
    exact e
  subst hr
  exact ⟨t.deep.ok, hk, t.len.symm, t.src⟩
theorem Got.zero {y : Raw} (g : Got h [] y) : y.Ok ∧ y.kind = 0 := by
  obtain ⟨rows, t, e, f⟩ := g
  refine ⟨t.deep.ok, ?_⟩
  obtain ⟨ms, e0⟩ := t.deep.says
  injection e0 with e1' _ _ _ _
  exact e1'.symm
end Go.Den.Mon
end

section
set_option linter.unusedVariables false
set_option maxRecDepth 100000
namespace Go.Den.Mon
open Go Go.Den
variable {h : Hp} {K : Value → Hp → Prop}
theorem Deep.leaf {r : Raw} {m : Mon} (d : Deep h r m) (h0 : r.sn = 0) : m = leaf r := by
  cases d with
  | @mk _ rows ms _ _ hl _ _ hm _ =>
    have : ms = [] := List.length_eq_zero_iff.1 (by omega)
    subst this
    rfl
theorem txt0 {s : ByteArray} (e : s.size = 0) : s.data.toList = [] := List.length_eq_zero_iff.1 (by rw [← Lib.size_eq]; exact e)
theorem right_tree {x : Raw} {rows : List Raw} {m : Mon} (t : Top h x rows m) (e : rright x rows = true) : m = ofTree (partsOf x rows) := by
  unfold rright at e
  unfold partsOf
  split at e
  · rename_i h0
    have d := of_decide_eq_true e
    rw [if_pos h0]
    rw [t.deep.leaf d.2.2.2]
    unfold leaf ofTree
    rw [h0, d.2.1, d.2.2.1, txt0 d.1]
  · rename_i h0
    split at e
    · rename_i h5
      rw [Bool.and_eq_true] at e
      have d := of_decide_eq_true e.1
      have rp := List.all_eq_true.1 e.2
      rw [if_neg h0, if_pos h5]
      have td := t.deep
      have tl := t.len
      have ts := t.src
      have tok := t.ok
      cases td with
      | @mk _ rows' ms ok hb hl hs okr hm hd =>
        have er : rows' = rows := by
          refine List.ext_getElem? fun i => ?_
          by_cases hi : i < x.sn
          · obtain ⟨r1, q1⟩ : ∃ r, rows'[i]? = some r := ⟨_, List.getElem?_eq_getElem (by omega)⟩
            obtain ⟨r2, q2⟩ : ∃ r, rows[i]? = some r := ⟨_, List.getElem?_eq_getElem (by omega)⟩
            obtain ⟨p1, e1', -, c1⟩ := srcM hs okr hl q1
            obtain ⟨p2, e2', -, c2⟩ := srcM ts tok tl q2
            rw [e1'] at e2'
            cases e2'
            have a := c1 h rfl
            have b := c2 h rfl
            have : mc r1 = mc r2 := by
              refine List.ext_getElem? fun j => ?_
              have l1 := mc_len (okr r1 (List.mem_of_getElem? q1))
              have l2 := mc_len (tok r2 (List.mem_of_getElem? q2))
              by_cases hj : j < 20
              · obtain ⟨v, hv⟩ : ∃ v, (mc r1)[j]? = some v := ⟨_, List.getElem?_eq_getElem (by omega)⟩
                obtain ⟨u, hu⟩ : ∃ u, (mc r2)[j]? = some u := ⟨_, List.getElem?_eq_getElem (by omega)⟩
                have x1 := a.2 j v (by rw [List.getElem?_toArray]; exact hv)
                have x2 := b.2 j u (by rw [List.getElem?_toArray]; exact hu)
                rw [x1] at x2; cases x2
                rw [hv, hu]
              · rw [List.getElem?_eq_none (by omega), List.getElem?_eq_none (by omega)]
            have : r1 = r2 := by
              unfold mc at this
              obtain ⟨k1, g1, t1, H1, a1, n1, c1'⟩ := r1
              obtain ⟨k2, g2, t2, H2, a2, n2, c2'⟩ := r2
              have o1 := (okr _ (List.mem_of_getElem? q1)).id.1
              have o2 := (tok _ (List.mem_of_getElem? q2)).id.1
              simp only at o1 o2
              simp only [List.cons.injEq] at this
              obtain ⟨z1, z2⟩ := this
              have z3 := List.append_inj z2 (by rw [gvs_len, gvs_len, o1, o2])
              have z4 := gvs_inj z3.1
              have z5 := z3.2
              simp at z1 z5
              obtain ⟨y1, y2, y3, y4, y5⟩ := z5
              subst z1 z4 y1 y3 y4 y5
              have : H1 = H2 := by omega
              subst this
              rfl
            rw [q1, q2, this]
          · rw [List.getElem?_eq_none (by omega), List.getElem?_eq_none (by omega)]
        subst er
        have em : ms = rows'.map leaf := by
          refine List.ext_getElem? fun i => ?_
          by_cases hi : i < rows'.length
          · obtain ⟨r1, q1⟩ : ∃ r, rows'[i]? = some r := ⟨_, List.getElem?_eq_getElem hi⟩
            obtain ⟨m1, q2⟩ : ∃ r, ms[i]? = some r := ⟨_, List.getElem?_eq_getElem (by omega)⟩
            rw [q2, List.getElem?_map, q1, (hd i r1 m1 q1 q2).leaf (rp_sn (rp r1 (List.mem_of_getElem? q1)))]
            rfl
          · rw [List.getElem?_eq_none (by omega), List.getElem?_eq_none (by simp; omega)]
        rw [em, h5, d.2.1, d.2.2.1, txt0 d.1]
        match rows', hl, d.2.2.2.1 with
        | [], hl, d2 => simp at hl; omega
        | [_], hl, d2 => simp at hl; omega
        | _ :: _ :: _, _, _ => rfl
    · rename_i h5
      rw [if_neg h0, if_neg h5]
      exact t.deep.leaf (rp_sn e)
def nrm (r : Raw) : Raw := { r with sa := none, sn := 0, sc := 0 }
theorem nrm_ok {r : Raw} (ok : r.Ok) (rp : rpart r = true) : (nrm r).Ok ∧ rpart (nrm r) = true ∧ (nrm r).sa = none ∧ (nrm r).sc = 0 := by
  refine ⟨⟨ok.id, ok.H, ok.kind, ok.txt⟩, ?_, rfl, rfl⟩
  have e := rp_sn rp
  unfold rpart at rp ⊢
  rw [e] at rp
  exact rp
theorem nrm_txt {l : List Raw} : txtOf (l.map nrm) = txtOf l := by
  induction l with
  | nil => rfl
  | cons r l ih =>
    have e : txtOf ((r :: l).map nrm) = txt1 (nrm r) ++ txtOf (l.map nrm) := rfl
    rw [e, ih]
    rfl
theorem nrm_tree : ∀ {l : List Raw}, ofTree (l.map nrm) = ofTree l
  | [] => rfl
  | [r] => rfl
  | r :: s :: l => by
    have e : ∀ k : List Raw, (k.map nrm).map leaf = k.map leaf := fun k => by rw [List.map_map]; rfl
    show Mon.mk 5 z16 [] 0 (((r :: s :: l).map nrm).map leaf) = Mon.mk 5 z16 [] 0 ((r :: s :: l).map leaf)
    rw [e]
end Go.Den.Mon
end

section
set_option linter.unusedVariables false
set_option maxRecDepth 100000
namespace Go.Den.Rot
open Go Go.Den Go.Den.Mon
/-! ### Texts and trees say the same -/
theorem txtOf_inj {L M : List Raw} (cL : ∀ x ∈ L, Cn x) (cM : ∀ x ∈ M, Cn x) (e : txtOf L = txtOf M) : M = L := by
  have w1 := Rd.complete cL
  have w2 := Rd.complete cM
  rw [e] at w1
  exact (w1.alike w2 rd_nil).1
theorem leaf_txt {r r' : Raw} (e : leaf r = leaf r') : txt1 r = txt1 r' := by
  obtain ⟨k, g, t, H, a, n, c⟩ := r
  obtain ⟨k', g', t', H', a', n', c'⟩ := r'
  unfold leaf at e
  simp only at e
  injection e with e1 e2 e3 e4 _
  subst e1 e2 e4
  unfold txt1
  simp only [e3]
theorem map_leaf_txt : ∀ {l l' : List Raw}, l.map leaf = l'.map leaf → txtOf l = txtOf l'
  | [], [], _ => rfl
  | [], _ :: _, e => by cases e
  | _ :: _, [], e => by cases e
  | r :: l, r' :: l', e => by
    rw [List.map_cons, List.map_cons] at e
    injection e with e1 e2
    show txt1 r ++ txtOf l = txt1 r' ++ txtOf l'
    rw [leaf_txt e1, map_leaf_txt e2]
def okL (l : List Raw) : Prop := ∀ r ∈ l, r.Ok ∧ rpart r = true
theorem tree_txt {l l' : List Raw} (c : okL l) (c' : okL l') : ofTree l = ofTree l' ↔ txtOf l = txtOf l' := by
  constructor
  · intro e
    match l, l', c, c', e with
    | [], [], _, _, _ => rfl
    | [], [r], _, c', e =>
      have := rp_kind (c' r (by simp)).2
      injection e with e1
      omega
    | [], _ :: _ :: _, _, _, e => injection e with e1; exact absurd e1 (by decide)
    | [r], [], c, _, e =>
      have := rp_kind (c r (by simp)).2
      injection e with e1
      omega
    | [r], [r'], _, _, e =>
      show txt1 r ++ [] = txt1 r' ++ []
      rw [leaf_txt (show leaf r = leaf r' from e)]
    | [r], _ :: _ :: _, c, _, e =>
      have := rp_kind (c r (by simp)).2
      injection e with e1
      omega
    | _ :: _ :: _, [], _, _, e => injection e with e1; exact absurd e1 (by decide)
    | _ :: _ :: _, [r], _, c', e =>
      have := rp_kind (c' r (by simp)).2
      injection e with e1
      omega
    | a :: b :: l, a' :: b' :: l', _, _, e =>
      injection e with _ _ _ _ e5
      exact map_leaf_txt e5
  · intro e
    rw [← nrm_txt (l := l), ← nrm_txt (l := l')] at e
    have cn : ∀ {l : List Raw}, okL l → ∀ x ∈ l.map nrm, Cn x := fun {l} c x hx => by
      obtain ⟨q, hq, rfl⟩ := List.mem_map.1 hx
      obtain ⟨a, b, d, f⟩ := nrm_ok (c q hq).1 (c q hq).2
      exact Cn.of a b d f
    rw [← nrm_tree (l := l), ← nrm_tree (l := l'), txtOf_inj (cn c) (cn c') e]
/-! ### The table -/
structure Ent where
  owner : Int
  txt : List UInt8
  tgt : Nat
  strong : Bool
def zE : Ent := ⟨0, [], 0, false⟩
structure Sp where
  x : Ent
  g : Nat
  t : Bool
structure RSp where
  g : Nat
  st : Nat
structure DE where
  h : Nat
  owner : Int
  m : Raw
  l : List Raw
  tgt : Nat
  strong : Bool
def hd (i g : Nat) : Nat := g * 4294967296 + i + 1
def gone (s : Sp) : Sp := if s.g < 4294967295 then ⟨zE, s.g + 1, false⟩ else ⟨zE, s.g, false⟩
def freed (s : Sp) (i : Nat) : List Nat := if s.g < 4294967295 then [i] else []
def rgone (s : RSp) : RSp := if s.g = 4294967295 then ⟨s.g, 2⟩ else ⟨s.g + 1, 0⟩
def rfreed (s : RSp) (i : Nat) : List Nat := if s.g = 4294967295 then [] else [i]
def live : Nat → List Sp → List (Nat × Sp)
  | _, [] => []
  | k, s :: r => if s.t = true then (k, s) :: live (k + 1) r else live (k + 1) r
theorem live_app {k : Nat} {a b : List Sp} : live k (a ++ b) = live k a ++ live (k + a.length) b := by
  induction a generalizing k with
  | nil => rfl
  | cons s a ih =>
    rw [List.cons_append, live, live, ih, List.length_cons, show k + 1 + a.length = k + (a.length + 1) by omega]
    split <;> rfl
theorem live_len {k : Nat} {a : List Sp} : (live k a).length ≤ a.length := by
  induction a generalizing k with
  | nil => simp [live]
  | cons s a ih =>
    rw [live]
    have := ih (k := k + 1)
    split <;> simp <;> omega
theorem live_mem {k j : Nat} {a : List Sp} {s : Sp} : (j, s) ∈ live k a ↔ k ≤ j ∧ a[j - k]? = some s ∧ s.t = true := by
  induction a generalizing k with
  | nil => simp [live]
  | cons x a ih =>
    rw [live]
    have e : (j, s) ∈ (if x.t = true then (k, x) :: live (k + 1) a else live (k + 1) a) ↔ (x.t = true ∧ j = k ∧ s = x) ∨ (j, s) ∈ live (k + 1) a := by
      split
      · rename_i ht; simp [ht]
      · rename_i ht; simp [ht]
    rw [e, ih]
    constructor
    · rintro (⟨h1, rfl, rfl⟩ | ⟨h1, h2, h3⟩)
      · exact ⟨Nat.le_refl _, by simp, h1⟩
      · refine ⟨by omega, ?_, h3⟩
        rw [show j - k = (j - (k + 1)) + 1 by omega]; simpa using h2
    · rintro ⟨h1, h2, h3⟩
      by_cases hj : j = k
      · subst hj; simp at h2; subst h2; exact .inl ⟨h3, rfl, rfl⟩
      · right
        refine ⟨by omega, ?_, h3⟩
        rw [show j - k = (j - (k + 1)) + 1 by omega] at h2; simpa using h2
theorem live_lt : ∀ {k : Nat} {a : List Sp}, (live k a).Pairwise (fun p q => p.1 < q.1)
  | _, [] => .nil
  | k, s :: a => by
    rw [live]
    split
    · refine List.Pairwise.cons (fun p hp => ?_) live_lt
      obtain ⟨h1, -⟩ := live_mem.1 (show (p.1, p.2) ∈ live (k + 1) a from hp)
      show k < p.1
      omega
    · exact live_lt
def named (sp : List Sp) (t : List UInt8) : Option (Nat × Sp) := (live 0 sp).find? fun p => decide (p.2.x.txt = t)
theorem named_some {sp : List Sp} {t : List UInt8} {i : Nat} {s : Sp} (e : named sp t = some (i, s)) : sp[i]? = some s ∧ s.t = true ∧ s.x.txt = t := by
  have h1 := List.find?_some e
  have h2 := List.mem_of_find?_eq_some e
  obtain ⟨-, a, b⟩ := live_mem.1 h2
  exact ⟨by simpa using a, b, of_decide_eq_true h1⟩
theorem named_none {sp : List Sp} {t : List UInt8} (e : named sp t = none) {i : Nat} {s : Sp} (hs : sp[i]? = some s) (ht : s.t = true) : s.x.txt ≠ t := by
  have := List.find?_eq_none.1 e (i, s) (live_mem.2 ⟨Nat.zero_le _, by simpa using hs, ht⟩)
  simpa using this
def placed (sp : List Sp) (fr : List Nat) (x : Ent) (i g : Nat) (sp' : List Sp) (fr' : List Nat) : Prop :=
  (fr = [] ∧ i = sp.length ∧ g = 1 ∧ sp' = sp ++ [⟨x, 1, true⟩] ∧ fr' = []) ∨ (∃ s, fr = fr' ++ [i] ∧ sp[i]? = some s ∧ g = s.g ∧ sp' = sp.set i ⟨x, s.g, true⟩)
theorem placed.at {sp sp' : List Sp} {fr fr' : List Nat} {x : Ent} {i g : Nat} (p : placed sp fr x i g sp' fr') : sp'[i]? = some ⟨x, g, true⟩ := by
  rcases p with ⟨-, rfl, rfl, rfl, -⟩ | ⟨s, -, h, rfl, rfl⟩
  · simp
  · have := (List.getElem?_eq_some_iff.1 h).1
    simp [this]
theorem placed.ne {sp sp' : List Sp} {fr fr' : List Nat} {x : Ent} {i g : Nat} (p : placed sp fr x i g sp' fr') {j : Nat} (hj : j ≠ i) : sp'[j]? = sp[j]? := by
  rcases p with ⟨-, rfl, rfl, rfl, -⟩ | ⟨s, -, h, rfl, rfl⟩
  · rw [List.getElem?_append]
    split
    · rfl
    · rename_i hl
      rw [List.getElem?_eq_none (by simp; omega), List.getElem?_eq_none (by omega)]
  · rw [List.getElem?_set, if_neg (Ne.symm hj)]
end Go.Den.Rot
end

section
set_option linter.unusedVariables false
set_option maxRecDepth 100000
namespace Go.Den.Rot
open Go Go.Den Go.Den.Mon
variable {sp sp' : List Sp} {fr fr' : List Nat} {gs gs' : List RSp} {DL : List DE} {i j k g : Nat} {s : Sp} {d : DE} {x : Ent}
def spk (s : Sp) : Nat × Bool := (s.g, s.t)
def rpk (s : RSp) : Nat × Bool := (s.g, decide (s.st = 1))
theorem hd_inj {i g i' g' : Nat} (hi : i < 4294967295) (hi' : i' < 4294967295) (e : hd i g = hd i' g') : i = i' ∧ g = g' := by unfold hd at e; omega
theorem hd_lt {i g : Nat} (hi : i < 4294967295) (hg : g < 4294967296) : hd i g < 18446744073709551616 := by unfold hd; omega
theorem hd_pos {i g : Nat} : hd i g ≠ 0 := by unfold hd; omega
structure Alk (hn : Nat) (x : Ent) (d : DE) : Prop where
  h : d.h = hn
  ow : d.owner = x.owner
  tx : txtOf d.l = x.txt
  tg : d.tgt = x.tgt
  sg : d.strong = x.strong
  ok : okL d.l
structure Cor (sp : List Sp) (fr : List Nat) (gs : List RSp) (DL : List DE) : Prop where
  sh : sp.map spk = gs.map rpk
  of : ∀ (i : Nat) (s : Sp), sp[i]? = some s → s.t = true → ∃ d ∈ DL, Alk (hd i s.g) s.x d
  too : ∀ d ∈ DL, ∃ (i : Nat) (s : Sp), sp[i]? = some s ∧ s.t = true ∧ Alk (hd i s.g) s.x d
  un : DL.Pairwise fun a b => a.h ≠ b.h
  key : ∀ (i j : Nat) (s s' : Sp), sp[i]? = some s → s.t = true → sp[j]? = some s' → s'.t = true → s.x.txt = s'.x.txt → i = j
  fz : ∀ i ∈ fr, ∀ s : Sp, sp[i]? = some s → s.t = false
  fn : fr.Nodup
  g : ∀ s ∈ sp, s.g < 4294967296
  len : sp.length ≤ 65536
theorem Cor.nil : Cor [] [] [] [] := ⟨rfl, by simp, by simp, .nil, by simp, by simp, by simp, by simp, by simp⟩
theorem Cor.lt (C : Cor sp fr gs DL) (hs : sp[i]? = some s) : i < 65536 ∧ s.g < 4294967296 ∧ hd i s.g < 18446744073709551616 := by
  have h1 := (List.getElem?_eq_some_iff.1 hs).1
  have h2 := C.len
  have h3 := C.g s (List.mem_of_getElem? hs)
  exact ⟨by omega, h3, hd_lt (by omega) h3⟩
theorem Cor.gl (C : Cor sp fr gs DL) : sp.length = gs.length := by have := congrArg List.length C.sh; simpa using this
theorem Cor.ge (C : Cor sp fr gs DL) (hs : sp[i]? = some s) : ∃ q, gs[i]? = some q ∧ q.g = s.g ∧ (s.t = true ↔ q.st = 1) := by
  have e : (sp.map spk)[i]? = (gs.map rpk)[i]? := by rw [C.sh]
  rw [List.getElem?_map, List.getElem?_map, hs] at e
  cases hq : gs[i]? with
  | none => rw [hq] at e; cases e
  | some q =>
    rw [hq] at e
    have e : spk s = rpk q := by simpa using e
    refine ⟨q, rfl, (congrArg Prod.fst e).symm, ?_⟩
    have : s.t = decide (q.st = 1) := congrArg Prod.snd e
    rw [this]; simp
theorem gone_t {s : Sp} : (gone s).t = false := by unfold gone; split <;> rfl
theorem gone_g {s : Sp} (h : s.g < 4294967296) : (gone s).g < 4294967296 := by
  unfold gone
  split
  · show s.g + 1 < _; omega
  · exact h
theorem gone_rgone {s : Sp} {q : RSp} (e : q.g = s.g) (hg : s.g < 4294967296) : spk (gone s) = rpk (rgone q) ∧ freed s i = rfreed q i := by
  unfold gone rgone freed rfreed
  rw [e]
  by_cases hl : s.g < 4294967295
  · rw [if_pos hl, if_neg (by omega), if_pos hl, if_neg (by omega)]; exact ⟨by simp [spk, rpk], rfl⟩
  · rw [if_neg hl, if_pos (by omega), if_neg hl, if_pos (by omega)]; exact ⟨by simp [spk, rpk], rfl⟩
theorem Cor.one (C : Cor sp fr gs DL) {d' : DE} (h1 : d ∈ DL) (h2 : d' ∈ DL) (e : d.h = d'.h) : d = d' := by
  obtain ⟨a, ha⟩ := List.mem_iff_getElem?.1 h1
  obtain ⟨b, hb⟩ := List.mem_iff_getElem?.1 h2
  have pw := List.pairwise_iff_getElem.1 C.un
  obtain ⟨la, ea⟩ := List.getElem?_eq_some_iff.1 ha
  obtain ⟨lb, eb⟩ := List.getElem?_eq_some_iff.1 hb
  rcases Nat.lt_trichotomy a b with q | q | q
  · have := pw a b la lb q; rw [ea, eb] at this; exact absurd e this
  · subst q; rw [ha] at hb; exact Option.some.inj hb
  · have := pw b a lb la q; rw [ea, eb] at this; exact absurd e.symm this
theorem Cor.idx (C : Cor sp fr gs DL) (ha : DL[j]? = some d) {d' : DE} (hb : DL[k]? = some d') (e : d.h = d'.h) : j = k := by
  have pw := List.pairwise_iff_getElem.1 C.un
  obtain ⟨la, ea⟩ := List.getElem?_eq_some_iff.1 ha
  obtain ⟨lb, eb⟩ := List.getElem?_eq_some_iff.1 hb
  rcases Nat.lt_trichotomy j k with q | q | q
  · have := pw j k la lb q; rw [ea, eb] at this; exact absurd e this
  · exact q
  · have := pw k j lb la q; rw [ea, eb] at this; exact absurd e.symm this
theorem Cor.drop (C : Cor sp fr gs DL) (hs : sp[i]? = some s) (ht : s.t = true) (hd' : DL[k]? = some d) (e : d.h = hd i s.g) {q : RSp} (hq : gs[i]? = some q) :
    Cor (sp.set i (gone s)) (fr ++ rfreed q i) (gs.set i (rgone q)) (DL.eraseIdx k) ∧ freed s i = rfreed q i := by
  obtain ⟨q', hq', eg, -⟩ := C.ge hs
  rw [hq] at hq'; cases hq'
  obtain ⟨l1, l2, l3⟩ := C.lt hs
  have hil := (List.getElem?_eq_some_iff.1 hs).1
  obtain ⟨gr, ef⟩ := gone_rgone (i := i) eg l2
  refine ⟨⟨by rw [List.map_set, List.map_set, C.sh, gr], fun j s' hj tj => ?_, fun d' hd2 => ?_, C.un.sublist (List.eraseIdx_sublist _ _), fun a b u v ha ta hb tb et => ?_, fun j hj s' hs' => ?_, ?_, fun u hu => ?_, by rw [List.length_set]; exact C.len⟩, ef⟩
  · by_cases ej : j = i
    · subst ej
      rw [List.getElem?_set, if_pos rfl, if_pos hil] at hj
      cases hj; rw [gone_t] at tj; cases tj
    · rw [List.getElem?_set, if_neg (Ne.symm ej)] at hj
      obtain ⟨d', m', al⟩ := C.of j s' hj tj
      refine ⟨d', ?_, al⟩
      obtain ⟨m, hm⟩ := List.mem_iff_getElem?.1 m'
      refine List.mem_eraseIdx_iff_getElem?.2 ⟨m, fun em => ?_, hm⟩
      subst em
      rw [hm] at hd'; cases hd'
      have := (hd_inj (by have := (C.lt hj).1; omega) (by omega) (al.h.symm.trans e)).1
      exact ej this
  · obtain ⟨m, nm, hm⟩ := List.mem_eraseIdx_iff_getElem?.1 hd2
    obtain ⟨j, s', hj, tj, al⟩ := C.too d' (List.mem_of_getElem? hm)
    refine ⟨j, s', ?_, tj, al⟩
    rw [List.getElem?_set, if_neg]
    · exact hj
    · intro ei
      subst ei
      rw [hs] at hj; cases hj
      exact nm (C.idx hm hd' (al.h.trans e.symm))
  · have fa : ∀ {a : Nat} {u : Sp}, (sp.set i (gone s))[a]? = some u → u.t = true → sp[a]? = some u := fun {a u} ha ta => by
      rw [List.getElem?_set] at ha
      split at ha
      · first
          | (cases ha; rw [gone_t] at ta; cases ta)
          | (split at ha
             · cases ha; rw [gone_t] at ta; cases ta
             · cases ha)
      · exact ha
    exact C.key a b u v (fa ha ta) ta (fa hb tb) tb et
  · by_cases ej : j = i
    · subst ej
      rw [List.getElem?_set, if_pos rfl, if_pos hil] at hs'
      cases hs'; exact gone_t
    · rw [List.getElem?_set, if_neg (Ne.symm ej)] at hs'
      refine C.fz j ?_ s' hs'
      rcases List.mem_append.1 hj with z | z
      · exact z
      · unfold rfreed at z; split at z <;> simp at z; exact absurd z ej
  · rw [List.nodup_append]
    refine ⟨C.fn, by unfold rfreed; split <;> simp, fun a ha b hb => ?_⟩
    unfold rfreed at hb; split at hb <;> simp at hb
    subst hb
    intro eab
    subst eab
    have := C.fz _ ha s hs
    rw [ht] at this; cases this
  · rcases List.mem_or_eq_of_mem_set hu with z | rfl
    · exact C.g u z
    · exact gone_g l2
def rplaced (gs : List RSp) (fr : List Nat) (i g : Nat) (gs' : List RSp) (fr' : List Nat) : Prop :=
  (fr = [] ∧ i = gs.length ∧ g = 1 ∧ gs' = gs ++ [⟨1, 1⟩] ∧ fr' = []) ∨ (∃ s, fr = fr' ++ [i] ∧ gs[i]? = some s ∧ g = s.g ∧ gs' = gs.set i ⟨s.g, 1⟩)
theorem placed_of (C : Cor sp fr gs DL) (r : rplaced gs fr i g gs' fr') : ∃ sp', placed sp fr x i g sp' fr' ∧ sp'.map spk = gs'.map rpk := by
  rcases r with ⟨r1, r2, r3, r4, r5⟩ | ⟨q, r1, r2, r3, r4⟩
  · subst r1 r2 r3 r4 r5
    exact ⟨_, .inl ⟨rfl, C.gl.symm, rfl, rfl, rfl⟩, by simp [C.sh, spk, rpk]⟩
  · have hil : i < sp.length := by rw [C.gl]; exact (List.getElem?_eq_some_iff.1 r2).1
    have hs : sp[i]? = some sp[i] := List.getElem?_eq_getElem hil
    obtain ⟨q', hq', eg, -⟩ := C.ge hs
    rw [r2] at hq'; cases hq'
    refine ⟨_, .inr ⟨sp[i], r1, hs, r3.trans eg, rfl⟩, ?_⟩
    rw [r4, List.map_set, List.map_set, C.sh]
    congr 1
    simp [spk, rpk, eg]
theorem Cor.add (C : Cor sp fr gs DL) (p : placed sp fr x i g sp' fr') (sh : sp'.map spk = gs'.map rpk) (hl : sp'.length ≤ 65536) (al : Alk (hd i g) x d) (hno : named sp x.txt = none) : Cor sp' fr' gs' (DL ++ [d]) := by
  have hat := p.at
  have hil := (List.getElem?_eq_some_iff.1 hat).1
  have old : ∀ {s : Sp}, sp[i]? = some s → s.t = true → False := fun {s} hs ht => by
    rcases p with ⟨h1, h2, h3, h4, h5⟩ | ⟨s', h1, h2, h3, h4⟩
    · have := (List.getElem?_eq_some_iff.1 hs).1; omega
    · have := C.fz i (by rw [h1]; simp) s hs
      rw [this] at ht; cases ht
  have gi : g < 4294967296 := by
    rcases p with ⟨h1, h2, h3, h4, h5⟩ | ⟨s', h1, h2, h3, h4⟩
    · omega
    · rw [h3]; exact (C.lt h2).2.1
  refine ⟨sh, fun j u hj tj => ?_, fun d' hd' => ?_, ?_, fun a b u v ha ta hb tb et => ?_, fun j hj u hu => ?_, ?_, fun u hu => ?_, hl⟩
  · by_cases e : j = i
    · subst e
      rw [hat] at hj; cases hj
      exact ⟨d, by simp, al⟩
    · rw [p.ne e] at hj
      obtain ⟨d', m, a'⟩ := C.of j u hj tj
      exact ⟨d', by simp [m], a'⟩
  · rcases List.mem_append.1 hd' with z | z
    · obtain ⟨j, u, h1, h2, h3⟩ := C.too d' z
      have e : j ≠ i := fun e => by subst e; exact old h1 h2
      exact ⟨j, u, by rw [p.ne e]; exact h1, h2, h3⟩
    · simp at z; subst z
      exact ⟨i, _, hat, rfl, al⟩
  · rw [List.pairwise_append]
    refine ⟨C.un, by simp, fun a ha b hb e => ?_⟩
    simp at hb; subst hb
    obtain ⟨j, u, h1, h2, h3⟩ := C.too a ha
    have := (hd_inj (by have := (C.lt h1).1; omega) (by omega) (h3.h.symm.trans (e.trans al.h))).1
    subst this
    exact old h1 h2
  · have f : ∀ {j : Nat} {u : Sp}, sp'[j]? = some u → u.t = true → j ≠ i → u.x.txt ≠ x.txt := fun {j u} hj tj e => by
      rw [p.ne e] at hj
      exact named_none hno hj tj
    by_cases h1 : a = i <;> by_cases h2 : b = i
    · rw [h1, h2]
    · subst h1; rw [hat] at ha; cases ha
      exact absurd et.symm (f hb tb h2)
    · subst h2; rw [hat] at hb; cases hb
      exact absurd et (f ha ta h1)
    · rw [p.ne h1] at ha; rw [p.ne h2] at hb
      exact C.key a b u v ha ta hb tb et
  · rcases p with ⟨h1, h2, h3, h4, h5⟩ | ⟨s', h1, h2, h3, h4⟩
    · rw [h5] at hj; simp at hj
    · have nd := C.fn
      rw [h1, List.nodup_append] at nd
      have e : j ≠ i := nd.2.2 j hj i (by simp)
      rw [h4, List.getElem?_set, if_neg (Ne.symm e)] at hu
      exact C.fz j (by rw [h1]; simp [hj]) u hu
  · rcases p with ⟨h1, h2, h3, h4, h5⟩ | ⟨s', h1, h2, h3, h4⟩
    · rw [h5]; simp
    · have nd := C.fn
      rw [h1, List.nodup_append] at nd
      exact nd.1
  · rcases p with ⟨h1, h2, h3, h4, h5⟩ | ⟨s', h1, h2, h3, h4⟩
    · rw [h4] at hu
      rcases List.mem_append.1 hu with z | z
      · exact C.g u z
      · simp at z; subst z; show 1 < _; omega
    · rw [h4] at hu
      rcases List.mem_or_eq_of_mem_set hu with z | rfl
      · exact C.g u z
      · exact (C.lt h2).2.1
theorem Cor.name_some (C : Cor sp fr gs DL) {l : List Raw} (ok : okL l) (hk : DL[k]? = some d) (e : ofTree d.l = ofTree l) : ∃ i s, named sp (txtOf l) = some (i, s) ∧ Alk (hd i s.g) s.x d := by
  obtain ⟨i, s, hs, ht, al⟩ := C.too d (List.mem_of_getElem? hk)
  have et : s.x.txt = txtOf l := al.tx.symm.trans ((tree_txt al.ok ok).1 e)
  cases hn : named sp (txtOf l) with
  | none => exact absurd et (named_none hn hs ht)
  | some p =>
    obtain ⟨j, u⟩ := p
    obtain ⟨h1, h2, h3⟩ := named_some hn
    have := C.key i j s u hs ht h1 h2 (et.trans h3.symm)
    subst this
    rw [hs] at h1; cases h1
    exact ⟨i, s, rfl, al⟩
theorem Cor.name_none (C : Cor sp fr gs DL) {l : List Raw} (ok : okL l) (h : ∀ d ∈ DL, ofTree d.l ≠ ofTree l) : named sp (txtOf l) = none := by
  cases hn : named sp (txtOf l) with
  | none => rfl
  | some p =>
    obtain ⟨j, u⟩ := p
    obtain ⟨h1, h2, h3⟩ := named_some hn
    obtain ⟨d, md, al⟩ := C.of j u h1 h2
    exact absurd ((tree_txt al.ok ok).2 (al.tx.trans h3)) (h d md)
end Go.Den.Rot
end

section
set_option linter.unusedVariables false
set_option maxRecDepth 100000
namespace Go.Den.Rot
open Go Go.Den Go.Den.Mon
variable {sp sp' : List Sp} {fr fr' : List Nat} {gs gs' : List RSp} {DL : List DE} {i j k g : Nat} {s : Sp} {d : DE} {x : Ent}
theorem nodup_le : ∀ {n : Nat} {l : List Nat}, l.Nodup → (∀ x ∈ l, x < n) → l.length ≤ n
  | 0, l, _, h => by
    cases l with
    | nil => simp
    | cons a l => have := h a (by simp); omega
  | n + 1, l, nd, h => by
    have := nodup_le (n := n) (l := l.erase n) (nd.erase n) fun x hx => by
      have q := (nd.mem_erase_iff).1 hx
      have := h x q.2
      omega
    rw [List.length_erase] at this
    split at this <;> omega
structure Fre (sp : List Sp) (fr : List Nat) : Prop where
  fz : ∀ i ∈ fr, ∃ s : Sp, sp[i]? = some s ∧ s.t = false
  fn : fr.Nodup
theorem Fre.nil : Fre [] [] := ⟨by simp, by simp⟩
theorem Fre.lt (f : Fre sp fr) (hs : sp[i]? = some s) (ht : s.t = true) : fr.length < sp.length := by
  have ni : i ∉ fr := fun m => by
    obtain ⟨s', h1, h2⟩ := f.fz i m
    rw [hs] at h1; cases h1; rw [ht] at h2; cases h2
  have : (i :: fr).length ≤ sp.length := nodup_le (List.nodup_cons.2 ⟨ni, f.fn⟩) fun x hx => by
    rcases List.mem_cons.1 hx with rfl | hx
    · exact (List.getElem?_eq_some_iff.1 hs).1
    · obtain ⟨s', h1, -⟩ := f.fz x hx
      exact (List.getElem?_eq_some_iff.1 h1).1
  rw [List.length_cons] at this
  omega
theorem Fre.drop (f : Fre sp fr) (hs : sp[i]? = some s) (ht : s.t = true) : Fre (sp.set i (gone s)) (fr ++ freed s i) := by
  have hil := (List.getElem?_eq_some_iff.1 hs).1
  have ni : i ∉ fr := fun m => by
    obtain ⟨s', h1, h2⟩ := f.fz i m
    rw [hs] at h1; cases h1; rw [ht] at h2; cases h2
  refine ⟨fun j hj => ?_, ?_⟩
  · by_cases e : j = i
    · subst e
      exact ⟨gone s, by rw [List.getElem?_set, if_pos rfl, if_pos hil], gone_t⟩
    · rcases List.mem_append.1 hj with z | z
      · obtain ⟨s', h1, h2⟩ := f.fz j z
        exact ⟨s', by rw [List.getElem?_set, if_neg (Ne.symm e)]; exact h1, h2⟩
      · unfold freed at z; split at z <;> simp at z; exact absurd z e
  · rw [List.nodup_append]
    refine ⟨f.fn, by unfold freed; split <;> simp, fun a ha b hb => ?_⟩
    unfold freed at hb; split at hb <;> simp at hb
    subst hb
    exact fun e => ni (e ▸ ha)
theorem Fre.add (f : Fre sp fr) (p : placed sp fr x i g sp' fr') : Fre sp' fr' := by
  refine ⟨fun j hj => ?_, ?_⟩
  · rcases p with ⟨h1, h2, h3, h4, h5⟩ | ⟨s', h1, h2, h3, h4⟩
    · rw [h5] at hj; simp at hj
    · have nd := f.fn
      rw [h1, List.nodup_append] at nd
      have e : j ≠ i := nd.2.2 j hj i (by simp)
      obtain ⟨u, u1, u2⟩ := f.fz j (by rw [h1]; simp [hj])
      exact ⟨u, by rw [h4, List.getElem?_set, if_neg (Ne.symm e)]; exact u1, u2⟩
  · rcases p with ⟨h1, h2, h3, h4, h5⟩ | ⟨s', h1, h2, h3, h4⟩
    · rw [h5]; simp
    · have nd := f.fn
      rw [h1, List.nodup_append] at nd
      exact nd.1
theorem Cor.fre (C : Cor sp fr gs DL) (hf : ∀ i ∈ fr, i < sp.length) : Fre sp fr := ⟨fun i hi => ⟨sp[i]'(hf i hi), List.getElem?_eq_getElem (hf i hi), C.fz i hi _ (List.getElem?_eq_getElem (hf i hi))⟩, C.fn⟩
/-! ### Many go -/
def dieS (D : Ent → Bool) (q : List Sp × List Nat) (p : Nat × Sp) : List Sp × List Nat := if D p.2.x then (q.1.set p.1 (gone p.2), q.2 ++ freed p.2 p.1) else q
def dieAll (D : Ent → Bool) (sp : List Sp) (fr : List Nat) (ps : List (Nat × Sp)) : List Sp × List Nat := ps.foldl (dieS D) (sp, fr)
theorem dieAll_snoc {D : Ent → Bool} {ps : List (Nat × Sp)} {p : Nat × Sp} : dieAll D sp fr (ps ++ [p]) = dieS D (dieAll D sp fr ps) p := by simp [dieAll]
theorem dieAll_keep {D : Ent → Bool} : ∀ {ps : List (Nat × Sp)} {q : List Sp × List Nat}, (∀ p ∈ ps, p.1 ≠ i) → (ps.foldl (dieS D) q).1[i]? = q.1[i]?
  | [], _, _ => rfl
  | p :: ps, q, h => by
    show (ps.foldl (dieS D) (dieS D q p)).1[i]? = _
    rw [dieAll_keep fun r hr => h r (by simp [hr])]
    unfold dieS
    split
    · show (q.1.set p.1 _)[i]? = _
      rw [List.getElem?_set, if_neg (h p (by simp))]
    · rfl
theorem live_get {sp : List Sp} (hj : (live 0 sp)[j]? = some (i, s)) : sp[i]? = some s ∧ s.t = true := by
  obtain ⟨-, a, b⟩ := live_mem.1 (List.mem_of_getElem? hj)
  exact ⟨by simpa using a, b⟩
theorem die_at {D : Ent → Bool} (hj : (live 0 sp)[j]? = some (i, s)) : (dieAll D sp fr ((live 0 sp).take j)).1[i]? = some s := by
  refine (dieAll_keep fun p hp => ?_).trans (live_get hj).1
  obtain ⟨m, hm⟩ := List.mem_iff_getElem?.1 hp
  rw [List.getElem?_take] at hm
  split at hm
  · rename_i lt
    have pw := List.pairwise_iff_getElem.1 (live_lt (k := 0) (a := sp))
    obtain ⟨la, ea⟩ := List.getElem?_eq_some_iff.1 hm
    obtain ⟨lb, eb⟩ := List.getElem?_eq_some_iff.1 hj
    have := pw m j la lb lt
    rw [ea, eb] at this
    show p.1 ≠ i
    have : p.1 < i := this
    omega
  · cases hm
theorem die_succ {D : Ent → Bool} (hj : (live 0 sp)[j]? = some (i, s)) : dieAll D sp fr ((live 0 sp).take (j + 1)) = if D s.x then ((dieAll D sp fr ((live 0 sp).take j)).1.set i (gone s), (dieAll D sp fr ((live 0 sp).take j)).2 ++ freed s i) else dieAll D sp fr ((live 0 sp).take j) := by
  rw [List.take_add_one, hj]
  show dieAll D sp fr ((live 0 sp).take j ++ [(i, s)]) = _
  rw [dieAll_snoc]
  rfl
def cntD (D : Ent → Bool) (ps : List (Nat × Sp)) : Nat := (ps.filter fun p => D p.2.x).length
def tgtsD (D : Ent → Bool) (ps : List (Nat × Sp)) : List Nat := (ps.filter fun p => D p.2.x && p.2.x.strong).map fun p => p.2.x.tgt
theorem cntD_succ {D : Ent → Bool} {ps : List (Nat × Sp)} {p : Nat × Sp} (hj : ps[j]? = some p) : cntD D (ps.take (j + 1)) = if D p.2.x then cntD D (ps.take j) + 1 else cntD D (ps.take j) := by
  rw [List.take_add_one, hj]
  unfold cntD
  simp only [Option.toList, List.filter_append, List.length_append]
  split
  · rename_i q; simp [q]
  · rename_i q; simp [q]
theorem tgtsD_succ {D : Ent → Bool} {ps : List (Nat × Sp)} {p : Nat × Sp} (hj : ps[j]? = some p) : tgtsD D (ps.take (j + 1)) = tgtsD D (ps.take j) ++ (if D p.2.x && p.2.x.strong then [p.2.x.tgt] else []) := by
  rw [List.take_add_one, hj]
  unfold tgtsD
  simp only [Option.toList, List.filter_append, List.map_append]
  congr 1
  split
  · rename_i q; simp [q]
  · rename_i q; simp [q]
theorem cntD_le {D : Ent → Bool} {ps : List (Nat × Sp)} : cntD D ps ≤ ps.length := List.length_filter_le _ _
theorem tgtsD_len {D : Ent → Bool} {ps : List (Nat × Sp)} : (tgtsD D ps).length ≤ ps.length := by unfold tgtsD; rw [List.length_map]; exact List.length_filter_le _ _
def dTgt (t : Nat) (x : Ent) : Bool := decide (x.tgt = t)
def dOwn (n : Int) (x : Ent) : Bool := decide (x.owner = n)
/-! ### The document's handles in order -/
def rlive : Nat → List RSp → List Nat
  | _, [] => []
  | k, s :: r => if s.st = 1 then hd k s.g :: rlive (k + 1) r else rlive (k + 1) r
theorem live_rlive : ∀ {sp : List Sp} {gs : List RSp} {k : Nat}, sp.map spk = gs.map rpk → rlive k gs = (live k sp).map fun p => hd p.1 p.2.g
  | [], [], _, _ => rfl
  | [], _ :: _, _, e => by simp at e
  | _ :: _, [], _, e => by simp at e
  | s :: sp, q :: gs, k, e => by
    simp only [List.map_cons, List.cons.injEq] at e
    have et : s.t = decide (q.st = 1) := congrArg Prod.snd e.1
    have eg : s.g = q.g := congrArg Prod.fst e.1
    rw [live, rlive]
    have ih := live_rlive (k := k + 1) e.2
    by_cases h : q.st = 1
    · rw [if_pos h, if_pos (by rw [et]; simp [h]), List.map_cons, ih, eg]
    · rw [if_neg h, if_neg (by rw [et]; simp [h]), ih]
theorem placed.len (p : placed sp fr x i g sp' fr') : sp'.length = sp.length ∨ (fr = [] ∧ sp'.length = sp.length + 1) := by
  rcases p with ⟨h1, h2, h3, h4, h5⟩ | ⟨s', h1, h2, h3, h4⟩
  · exact .inr ⟨h1, by rw [h4]; simp⟩
  · exact .inl (by rw [h4]; simp)
theorem placed.fun {i' g' : Nat} {sp'' : List Sp} {fr'' : List Nat} (p : placed sp fr x i g sp' fr') (p' : placed sp fr x i' g' sp'' fr'') : i' = i ∧ g' = g ∧ sp'' = sp' ∧ fr'' = fr' := by
  rcases p with ⟨h1, h2, h3, h4, h5⟩ | ⟨s, h1, h2, h3, h4⟩ <;> rcases p' with ⟨r1, r2, r3, r4, r5⟩ | ⟨s', r1, r2, r3, r4⟩
  · subst h2 h3 h4 h5 r2 r3 r4 r5; exact ⟨rfl, rfl, rfl, rfl⟩
  · rw [h1] at r1; simp at r1
  · rw [h1] at r1; simp at r1
  · rw [h1] at r1
    obtain ⟨e1, e2⟩ := List.append_inj' r1 rfl
    simp at e2
    subst e1 e2
    rw [h2] at r2; cases r2
    exact ⟨rfl, by rw [h3, r3], by rw [h4, r4], rfl⟩
def fnd (sp : List Sp) (x : Nat) : Option (Nat × Sp) :=
  if x % 4294967296 = 0 then none else
  match sp[x % 4294967296 - 1]? with
  | some s => if s.t = true ∧ s.g = x / 4294967296 then some (x % 4294967296 - 1, s) else none
  | none => none
theorem fnd_some {x i : Nat} {s : Sp} (e : fnd sp x = some (i, s)) : sp[i]? = some s ∧ s.t = true ∧ x = hd i s.g := by
  unfold fnd at e
  split at e
  · cases e
  rename_i h0
  split at e
  · rename_i s' hs
    split at e
    · rename_i ht
      cases e
      exact ⟨hs, ht.1, by unfold hd; omega⟩
    · cases e
  · cases e
theorem fnd_hd {i : Nat} {s : Sp} (hs : sp[i]? = some s) (ht : s.t = true) (hi : i < 4294967295) : fnd sp (hd i s.g) = some (i, s) := by
  have e1 : hd i s.g % 4294967296 = i + 1 := by unfold hd; omega
  have e2 : hd i s.g / 4294967296 = s.g := by unfold hd; omega
  unfold fnd
  rw [e1, e2, if_neg (by omega), Nat.add_sub_cancel, hs]
  simp [ht]
end Go.Den.Rot
end

