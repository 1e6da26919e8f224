import Derived.Test.YtngngmkgkhmomaaDoorB26
import Derived.Laws.Bits64b
/- Texts that the claim needs, joined. -/
section
set_option linter.unusedVariables false
set_option maxRecDepth 100000
namespace Go.Den.Mon
open Go Go.Den
variable {h : Hp} {K : Value → Hp → Prop}
/-- What the package-level variables of the library hold. -/
structure Env (h : Hp) : Prop where
  tabs : Tabs h
  tz : h.cell? ⟨8, 15, none⟩ = some (.int .u8 4)
  err : ∃ ev, h.cell? ⟨2, 0, none⟩ = some ev ∧ (ev = .nilIface ∨ ∃ te pe, ev = .iface te pe)
theorem cell_stepH {h h' : Hp} {o : List Nat} (s : Step [] h o h') {a : Addr} {v : Value} (hc : h.cell? a = some v) : h'.cell? a = some v := by
  rw [← hc]
  refine cell_block rfl (s.keep _ (fun e => ?_) (by simp))
  unfold Hp.cell? at hc
  rw [e] at hc; cases hc
theorem Env.step {h h' : Hp} {o : List Nat} (e : Env h) (s : Step [] h o h') : Env h' := by
  obtain ⟨a, b, ev, c, d⟩ := e
  exact ⟨a.step s.forget0, cell_stepH s b, ev, cell_stepH s c, d⟩
theorem repeat_spec {c : Nat} (hc : c ≤ 1000) (hk : ∀ h', Step [] h [] h' → K (.string ⟨(Lib.repeatL [48] c).toArray⟩) h') : HC P strings_Repeat.n #[.string (⟨#[48]⟩ : ByteArray), .int .i64 (c : Int)] h K :=
  HC_of_calls fun w hw => (Go.Proofs.Tryd.strings_Repeat ⟨#[48]⟩ c w (by omega) (by show 1 * c ≤ _; omega)).mono fun e w' ⟨he, hb⟩ => ⟨_, he, hb, hk⟩
theorem toError_spec (en : Env h) {s fn : ByteArray} {b0 b1 : Int} (hs : s.size ≤ 1000) (hk : ∀ t v h', Step [] h [] h' → K (.iface t v) h') : HC P strconv_toError.n #[.string fn, .string s, .int .i64 b0, .int .i64 b1, .iface 106 (.int .i64 2)] h K := by
  obtain ⟨ev, e1, e2⟩ := en.err
  exact HC_of_calls fun w hw => (Go.Proofs.Tryd.strconv_toError_syntax fn s b0 b1 ev w (by omega) (by rw [← hp_cell?, hw]; exact e1) e2).mono fun e w' ⟨N, he, _, _, hb⟩ => ⟨_, he, hb, fun h' s => hk _ _ h' s⟩
/-! ### Digits -/
/-- The last so many digits. -/
def hf (n : Nat) : Nat → List UInt8
  | 0 => []
  | k + 1 => hexc (n / 16 ^ k % 16) :: hf n k
theorem hf_len {n : Nat} : ∀ {k : Nat}, (hf n k).length = k
  | 0 => rfl
  | k + 1 => by simp [hf, hf_len (n := n) (k := k)]
theorem repL {c : Nat} {b : UInt8} : Lib.repeatL [b] c = List.replicate c b := by
  induction c with
  | zero => rfl
  | succ c ih => rw [List.replicate_succ, ← ih]; rfl
theorem hf_pad {n d : Nat} (hn : n < 16 ^ d) : ∀ {e : Nat}, hf n (d + e) = List.replicate e (48 : UInt8) ++ hf n d
  | 0 => rfl
  | e + 1 => by
    show hexc (n / 16 ^ (d + e) % 16) :: hf n (d + e) = _
    have h1 : 16 ^ d ≤ 16 ^ (d + e) := Nat.pow_le_pow_right (by omega) (by omega)
    have : n / 16 ^ (d + e) = 0 := Nat.div_eq_of_lt (by omega)
    rw [this, hf_pad hn, List.replicate_succ]
    rfl
theorem and15 {m : Nat} (hm : m < 18446744073709551616) : bits .and .u64 (m : Int) 15 = ((m % 16 : Nat) : Int) := by
  have := bits_and_u64_nat m 15 hm (by omega)
  rw [show m &&& 15 = m % 16 from Nat.and_two_pow_sub_one_eq_mod m 4] at this
  exact this
theorem fdiv_n {m : Nat} : Int.fdiv (m : Int) (2 ^ Min.min ((4 : Int).toNat) 64) = ((m / 16 : Nat) : Int) := by
  show Int.fdiv (m : Int) ((16 : Nat) : Int) = _
  rw [Int.fdiv_eq_ediv_of_nonneg _ (by omega)]
  rfl
abbrev alph : ByteArray := ⟨#[48, 49, 50, 51, 52, 53, 54, 55, 56, 57, 97, 98, 99, 100, 101, 102, 103, 104, 105, 106, 107, 108, 109, 110, 111, 112, 113, 114, 115, 116, 117, 118, 119, 120, 121, 122]⟩
theorem alphs : ((List.range 16).all fun d => alph[d]? == some (hexc d)) = true := by decide +kernel
theorem alph_get {d : Nat} (hd : d < 16) : alph[d]? = some (hexc d) := by simpa using List.all_eq_true.1 alphs d (List.mem_range.2 hd)
theorem tz_spec (en : Env h) (hk : K (.int .i64 4) h) : HC P math_bits_TrailingZeros.n #[.int .u64 16] h K := by
  refine math_bits_TrailingZeros.hc ?_
  unfold math_bits_TrailingZeros
  refine math_bits_TrailingZeros64.hc ?_
  unfold math_bits_TrailingZeros64
  refine bcF rfl ?_
  unfold math_bits_TrailingZeros64.k0
  have e : (Int.fdiv (IntKind.wrap .u64 ((bits .and .u64 16 (IntKind.wrap .u64 (0 - 16))) * 285870213051353865)) (2 ^ Min.min ((58 : Int).toNat) 64)) = 15 := by decide +kernel
  rw [e]
  refine ⟨by omega, by omega, by omega, 4, ?_, _, rfl, ?_⟩
  · show h.cell? ((⟨8, 0, none⟩ : Addr).add 15) = _
    rw [Addr.add_mk]; exact en.tz
  · rw [show IntKind.wrap .i64 4 = 4 from by decide +kernel]; exact hk
end Go.Den.Mon
end

section
set_option linter.unusedVariables false
set_option maxRecDepth 100000
namespace Go.Den.Mon
open Go Go.Den
variable {h : Hp} {K : Value → Hp → Prop}
theorem fb_set {h2 : Hp} {b2 j n : Nat} {pre : List Value} (hb : h2 b2 = some (.cells (pre ++ bvs (hf n j)).toArray T.t65_uint8 (0, 0))) (hp : pre.length = 65 - j) (hj : j < 65) :
    ∃ pre', pre'.length = 64 - j ∧ (∃ u, h2.cell? ⟨b2, 64 - j, none⟩ = some u) ∧ h2.frozen? ⟨b2, 64 - j, none⟩ = false ∧
      (h2.setCell ⟨b2, 64 - j, none⟩ (.int .u8 ((hexc (n / 16 ^ j % 16)).toNat : Int))) b2 = some (.cells (pre' ++ bvs (hf n (j + 1))).toArray T.t65_uint8 (0, 0)) := by
  obtain ⟨pre', u, rfl⟩ : ∃ pre' u, pre = pre' ++ [u] := ⟨pre.dropLast, pre.getLast (List.ne_nil_of_length_pos (by omega)), (List.dropLast_concat_getLast _).symm⟩
  have hp' : pre'.length = 64 - j := by simp at hp; omega
  refine ⟨pre', hp', ⟨u, ?_⟩, frozen_of hb, ?_⟩
  · rw [cell_of hb, List.getElem?_toArray, ← hp']
    simp
  · rw [setCell_blk hb]
    have := set_split (pre := pre') (post := bvs (hf n j)) (u := u) (v := Value.int .u8 ((hexc (n / 16 ^ j % 16)).toNat : Int)) hp'
    simp only [List.append_assoc, List.singleton_append]
    rw [this]
    rfl
theorem formatBits_spec (en : Env h) {n : Nat} (hn : n < 18446744073709551616) (hk : ∀ d h', 1 ≤ d → d ≤ 16 → n < 16 ^ d → Step [] h [] h' → K (.tuple #[.slice none 0 0, .string ⟨(hf n d).toArray⟩]) h') :
    HC P internal_strconv_formatBits.n #[.slice none 0 0, .int .u64 (n : Int), .int .i64 16, .bool false, .bool false] h K := by
  refine internal_strconv_formatBits.hc ?_
  unfold internal_strconv_formatBits
  refine bcF rfl ?_
  unfold internal_strconv_formatBits.k21
  refine bcF rfl ?_
  unfold internal_strconv_formatBits.k20
  refine bcF rfl ?_
  unfold internal_strconv_formatBits.k19
  intro b2 hb2
  refine bcF rfl ?_
  unfold internal_strconv_formatBits.k18
  refine internal_strconv_isPowerOfTwo.hc ?_
  unfold internal_strconv_isPowerOfTwo
  refine ⟨_, rfl, ?_⟩
  unfold internal_strconv_formatBits.k17
  refine bcT (by decide +kernel) ?_
  unfold internal_strconv_formatBits.k15
  rw [show IntKind.wrap .u64 16 = 16 from by decide +kernel]
  refine tz_spec (en.step (Step.put (.inr hb2))) ⟨4, rfl, ?_⟩
  obtain ⟨I0, hI0⟩ : ∃ I0 : List Value → Hp → Prop, I0 = fun vs hh => ∃ (j : Nat) (pre : List Value), vs = [.int .i64 ((65 - j : Nat) : Int), .int .u64 ((n / 16 ^ j : Nat) : Int)] ∧ j ≤ 15 ∧ pre.length = 65 - j ∧ hh b2 = some (.cells (pre ++ bvs (hf n j)).toArray T.t65_uint8 (0, 0)) ∧ Step [] h [b2] hh := ⟨_, rfl⟩
  obtain ⟨x0, hx0⟩ : ∃ x0 : List Value → Hp → Nat, x0 = fun vs _ => match vs with | [_, .int _ i] => i.toNat | _ => 0 := ⟨_, rfl⟩
  refine ⟨I0, x0, ?_⟩
  unfold internal_strconv_formatBits.k14
  refine ⟨?_, ?_⟩
  · rw [hI0]
    refine ⟨0, List.replicate 65 (.int .u8 0), by simp, by omega, by simp, by rw [put_self]; rfl, Step.new hb2⟩
  intro h2 n3 n4 hin
  rw [hI0] at hin
  obtain ⟨j, pre, he, hj, hp, hb, st⟩ := hin
  have e1 : n3 = ((65 - j : Nat) : Int) ∧ n4 = ((n / 16 ^ j : Nat) : Int) := by cases he; exact ⟨rfl, rfl⟩
  clear he
  obtain ⟨rfl, rfl⟩ := e1
  obtain ⟨pre', p1, p2, p3, p4⟩ := fb_set hb hp (by omega)
  have hw : IntKind.wrap .i64 (((65 - j : Nat) : Int) - 1) = ((64 - j : Nat) : Int) := wrapN (by omega) (by omega)
  rw [show IntKind.wrap .u64 16 = 16 from by decide +kernel]
  have hle : n / 16 ^ j ≤ n := Nat.div_le_self _ _
  refine bcase_intro (fun hc => ?_) fun hc => ?_
  · have hc : 16 ≤ n / 16 ^ j := by have := of_decide_eq_true hc; omega
    have hs : n / 16 ^ j / 16 = n / 16 ^ (j + 1) := by rw [Nat.div_div_eq_div_mul, Nat.pow_succ]
    unfold internal_strconv_formatBits.k0
    rw [show IntKind.wrap .u64 (IntKind.wrap .u64 16 - 1) = 15 from by decide +kernel, show IntKind.wrap .u64 4 = 4 from by decide +kernel, and15 (by omega), fdiv_n, hw, hs]
    simp only [Int.toNat_natCast, Nat.mul_one, Addr.add_mk, Nat.zero_add]
    have hj15 : j + 1 ≤ 15 := by
      rcases Nat.lt_or_ge j 15 with q | q
      · omega
      · obtain rfl : j = 15 := by omega
        have : n / 16 ^ 15 < 16 := Nat.div_lt_of_lt_mul (by rw [← Nat.pow_succ]; exact hn)
        omega
    refine ⟨by omega, hexc (n / 16 ^ j % 16), alph_get (by omega), by omega, by omega, p2, p3, by omega, ?_, ?_⟩
    · rw [hI0]
      exact ⟨j + 1, pre', by rw [show 65 - (j + 1) = 64 - j by omega], hj15, by omega, p4, st.trans (Step.setCell hb (by simp))⟩
    · rw [hx0]
      show (((n / 16 ^ (j + 1) : Nat)) : Int).toNat < ((n / 16 ^ j : Nat) : Int).toNat
      rw [← hs]; omega
  · have hc : n / 16 ^ j < 16 := by have := of_decide_eq_false hc; omega
    have hm : n / 16 ^ j % 16 = n / 16 ^ j := Nat.mod_eq_of_lt hc
    unfold internal_strconv_formatBits.k7
    rw [hw]
    simp only [Int.toNat_natCast, Nat.mul_one, Addr.add_mk, Nat.zero_add]
    refine ⟨by omega, hexc (n / 16 ^ j), alph_get hc, by omega, by omega, p2, p3, bcF rfl ?_⟩
    unfold internal_strconv_formatBits.k6
    refine bcF rfl ?_
    unfold internal_strconv_formatBits.k5
    rw [hw]
    simp only [Int.toNat_natCast, Nat.mul_one, Addr.add_mk, Nat.zero_add]
    rw [hm] at p4
    refine ⟨by omega, by omega, ?_⟩
    have S := st.trans (Step.setCell (o := 64 - j) (v := .int .u8 ((hexc (n / 16 ^ j)).toNat : Int)) hb (by simp))
    have full : SrcAt (h2.setCell ⟨b2, 64 - j, none⟩ (.int .u8 ((hexc (n / 16 ^ j)).toNat : Int))) 1 (.slice (some ⟨b2, 0, none⟩) 65 65) 65 (pre' ++ bvs (hf n (j + 1))) := by
      refine .some ⟨by simp [p1, bvs_len, hf_len]; omega, fun i v hv => ?_⟩
      rw [Addr.add_mk, cell_of p4, Nat.zero_add]; exact hv
    have dr := src_drop (c' := 65 - (64 - j)) full (i := 64 - j) (by omega) (by omega)
    rw [Nat.mul_one, List.drop_left' p1] at dr
    refine bytesStr_wp dr ⟨_, rfl, hk (j + 1) _ (by omega) (by omega) ?_ S.forget0⟩
    have : 0 < 16 ^ j := Nat.pow_pos (by omega)
    rw [Nat.pow_succ]
    have := Nat.lt_mul_of_div_lt hc this
    omega
theorem fmt_spec (en : Env h) {n : Nat} (hn : n < 18446744073709551616) (hk : ∀ d h', 1 ≤ d → d ≤ 16 → n < 16 ^ d → Step [] h [] h' → K (.string ⟨(hf n d).toArray⟩) h') : HC P strconv_FormatUint.n #[.int .u64 (n : Int), .int .i64 16] h K := by
  refine strconv_FormatUint.hc ?_
  unfold strconv_FormatUint
  refine internal_strconv_FormatUint.hc ?_
  unfold internal_strconv_FormatUint
  refine bcF rfl ?_
  unfold internal_strconv_FormatUint.k5
  exact formatBits_spec en hn fun d h' h1 h2 h3 s => ⟨_, _, _, _, rfl, _, rfl, hk d h' h1 h2 h3 s⟩
end Go.Den.Mon
end

