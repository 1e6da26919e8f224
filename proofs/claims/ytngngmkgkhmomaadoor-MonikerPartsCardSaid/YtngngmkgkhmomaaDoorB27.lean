import Derived.Test.YtngngmkgkhmomaaDoorB26
/- Texts that the claim needs, joined. -/
section
set_option linter.unusedVariables false
set_option maxRecDepth 100000
namespace Go.Den.Mon
open Go Go.Den
variable {h : Hp} {K : Value → Hp → Prop}
theorem fb_set {h2 : Hp} {b2 j n : Nat} {pre : List Value} (hb : h2 b2 = some (.cells (pre ++ bvs (hf n j)).toArray T.t65_uint8 (0, 0))) (hp : pre.length = 65 - j) (hj : j < 65) :
    ∃ pre', pre'.length = 64 - j ∧ (∃ u, h2.cell? ⟨b2, 64 - j, none⟩ = some u) ∧ h2.frozen? ⟨b2, 64 - j, none⟩ = false ∧
      (h2.setCell ⟨b2, 64 - j, none⟩ (.int .u8 ((hexc (n / 16 ^ j % 16)).toNat : Int))) b2 = some (.cells (pre' ++ bvs (hf n (j + 1))).toArray T.t65_uint8 (0, 0)) := by
  obtain ⟨pre', u, rfl⟩ : ∃ pre' u, pre = pre' ++ [u] := ⟨pre.dropLast, pre.getLast (List.ne_nil_of_length_pos (by omega)), (List.dropLast_concat_getLast _).symm⟩
  have hp' : pre'.length = 64 - j := by simp at hp; omega
  refine ⟨pre', hp', ⟨u, ?_⟩, frozen_of hb, ?_⟩
  · rw [cell_of hb, List.getElem?_toArray, ← hp']
    simp
  · rw [setCell_blk hb]
    have := set_split (pre := pre') (post := bvs (hf n j)) (u := u) (v := Value.int .u8 ((hexc (n / 16 ^ j % 16)).toNat : Int)) hp'
    simp only [List.append_assoc, List.singleton_append]
    rw [this]
    rfl
theorem formatBits_spec (en : Env h) {n : Nat} (hn : n < 18446744073709551616) (hk : ∀ d h', 1 ≤ d → d ≤ 16 → n < 16 ^ d → Step [] h [] h' → K (.tuple #[.slice none 0 0, .string ⟨(hf n d).toArray⟩]) h') :
    HC P internal_strconv_formatBits.n #[.slice none 0 0, .int .u64 (n : Int), .int .i64 16, .bool false, .bool false] h K := by
  refine internal_strconv_formatBits.hc ?_
  unfold internal_strconv_formatBits
  refine bcF rfl ?_
  unfold internal_strconv_formatBits.k21
  refine bcF rfl ?_
  unfold internal_strconv_formatBits.k20
  refine bcF rfl ?_
  unfold internal_strconv_formatBits.k19
  intro b2 hb2
  refine bcF rfl ?_
  unfold internal_strconv_formatBits.k18
  refine internal_strconv_isPowerOfTwo.hc ?_
  unfold internal_strconv_isPowerOfTwo
  refine ⟨_, rfl, ?_⟩
  unfold internal_strconv_formatBits.k17
  refine bcT (by decide +kernel) ?_
  unfold internal_strconv_formatBits.k15
  rw [show IntKind.wrap .u64 16 = 16 from by decide +kernel]
  refine tz_spec (en.step (Step.put (.inr hb2))) ⟨4, rfl, ?_⟩
  obtain ⟨I0, hI0⟩ : ∃ I0 : List Value → Hp → Prop, I0 = fun vs hh => ∃ (j : Nat) (pre : List Value), vs = [.int .i64 ((65 - j : Nat) : Int), .int .u64 ((n / 16 ^ j : Nat) : Int)] ∧ j ≤ 15 ∧ pre.length = 65 - j ∧ hh b2 = some (.cells (pre ++ bvs (hf n j)).toArray T.t65_uint8 (0, 0)) ∧ Step [] h [b2] hh := ⟨_, rfl⟩
  obtain ⟨x0, hx0⟩ : ∃ x0 : List Value → Hp → Nat, x0 = fun vs _ => match vs with | [_, .int _ i] => i.toNat | _ => 0 := ⟨_, rfl⟩
  refine ⟨I0, x0, ?_⟩
  unfold internal_strconv_formatBits.k14
  refine ⟨?_, ?_⟩
  · rw [hI0]
    refine ⟨0, List.replicate 65 (.int .u8 0), by simp, by omega, by simp, by rw [put_self]; rfl, Step.new hb2⟩
  intro h2 n3 n4 hin
  rw [hI0] at hin
  obtain ⟨j, pre, he, hj, hp, hb, st⟩ := hin
  have e1 : n3 = ((65 - j : Nat) : Int) ∧ n4 = ((n / 16 ^ j : Nat) : Int) := by cases he; exact ⟨rfl, rfl⟩
  clear he
  obtain ⟨rfl, rfl⟩ := e1
  obtain ⟨pre', p1, p2, p3, p4⟩ := fb_set hb hp (by omega)
  have hw : IntKind.wrap .i64 (((65 - j : Nat) : Int) - 1) = ((64 - j : Nat) : Int) := wrapN (by omega) (by omega)
  rw [show IntKind.wrap .u64 16 = 16 from by decide +kernel]
  have hle : n / 16 ^ j ≤ n := Nat.div_le_self _ _
  refine bcase_intro (fun hc => ?_) fun hc => ?_
  · have hc : 16 ≤ n / 16 ^ j := by have := of_decide_eq_true hc; omega
    have hs : n / 16 ^ j / 16 = n / 16 ^ (j + 1) := by rw [Nat.div_div_eq_div_mul, Nat.pow_succ]
    unfold internal_strconv_formatBits.k0
    rw [show IntKind.wrap .u64 (IntKind.wrap .u64 16 - 1) = 15 from by decide +kernel, show IntKind.wrap .u64 4 = 4 from by decide +kernel, and15 (by omega), fdiv_n, hw, hs]
    simp only [Int.toNat_natCast, Nat.mul_one, Addr.add_mk, Nat.zero_add]
    have hj15 : j + 1 ≤ 15 := by
      rcases Nat.lt_or_ge j 15 with q | q
      · omega
      · obtain rfl : j = 15 := by omega
        have : n / 16 ^ 15 < 16 := Nat.div_lt_of_lt_mul (by rw [← Nat.pow_succ]; exact hn)
        omega
    refine ⟨by omega, hexc (n / 16 ^ j % 16), alph_get (by omega), by omega, by omega, p2, p3, by omega, ?_, ?_⟩
    · rw [hI0]
      exact ⟨j + 1, pre', by rw [show 65 - (j + 1) = 64 - j by omega], hj15, by omega, p4, st.trans (Step.setCell hb (by simp))⟩
    · rw [hx0]
      show (((n / 16 ^ (j + 1) : Nat)) : Int).toNat < ((n / 16 ^ j : Nat) : Int).toNat
      rw [← hs]; omega
  · have hc : n / 16 ^ j < 16 := by have := of_decide_eq_false hc; omega
    have hm : n / 16 ^ j % 16 = n / 16 ^ j := Nat.mod_eq_of_lt hc
    unfold internal_strconv_formatBits.k7
    rw [hw]
    simp only [Int.toNat_natCast, Nat.mul_one, Addr.add_mk, Nat.zero_add]
    refine ⟨by omega, hexc (n / 16 ^ j), alph_get hc, by omega, by omega, p2, p3, bcF rfl ?_⟩
    unfold internal_strconv_formatBits.k6
    refine bcF rfl ?_
    unfold internal_strconv_formatBits.k5
    rw [hw]
    simp only [Int.toNat_natCast, Nat.mul_one, Addr.add_mk, Nat.zero_add]
    rw [hm] at p4
    refine ⟨by omega, by omega, ?_⟩
    have S := st.trans (Step.setCell (o := 64 - j) (v := .int .u8 ((hexc (n / 16 ^ j)).toNat : Int)) hb (by simp))
    have full : SrcAt (h2.setCell ⟨b2, 64 - j, none⟩ (.int .u8 ((hexc (n / 16 ^ j)).toNat : Int))) 1 (.slice (some ⟨b2, 0, none⟩) 65 65) 65 (pre' ++ bvs (hf n (j + 1))) := by
      refine .some ⟨by simp [p1, bvs_len, hf_len]; omega, fun i v hv => ?_⟩
      rw [Addr.add_mk, cell_of p4, Nat.zero_add]; exact hv
    have dr := src_drop (c' := 65 - (64 - j)) full (i := 64 - j) (by omega) (by omega)
    rw [Nat.mul_one, List.drop_left' p1] at dr
    refine bytesStr_wp dr ⟨_, rfl, hk (j + 1) _ (by omega) (by omega) ?_ S.forget0⟩
    have : 0 < 16 ^ j := Nat.pow_pos (by omega)
    rw [Nat.pow_succ]
    have := Nat.lt_mul_of_div_lt hc this
    omega
theorem fmt_spec (en : Env h) {n : Nat} (hn : n < 18446744073709551616) (hk : ∀ d h', 1 ≤ d → d ≤ 16 → n < 16 ^ d → Step [] h [] h' → K (.string ⟨(hf n d).toArray⟩) h') : HC P strconv_FormatUint.n #[.int .u64 (n : Int), .int .i64 16] h K := by
  refine strconv_FormatUint.hc ?_
  unfold strconv_FormatUint
  refine internal_strconv_FormatUint.hc ?_
  unfold internal_strconv_FormatUint
  refine bcF rfl ?_
  unfold internal_strconv_FormatUint.k5
  exact formatBits_spec en hn fun d h' h1 h2 h3 s => ⟨_, _, _, _, rfl, _, rfl, hk d h' h1 h2 h3 s⟩
end Go.Den.Mon
end

