import Derived.Test.YtcigbdnpjeeaoaaCycG
/- The contracts of cycle: Garbage; two numbers' rows are the same; the document's examples. -/
set_option linter.unusedVariables false
set_option linter.unusedSimpArgs false
namespace Go.Den.Cycle
open Go Go.Den Cyc

theorem SameInts_spec {h : Hp} {a a2 : Option Addr} {n n2 c c2 : Nat} {xs ys : List Int} {K : Value → Hp → Prop} (h1 : SrcAt h 1 (.slice a n c) n (ints xs)) (h2 : SrcAt h 1 (.slice a2 n2 c2) n2 (ints ys)) (hn : n < 2 ^ 62)
    (hk : K (.bool (decide (xs = ys))) h) : HC P ref01_SameInts.n #[.slice a n c, .slice a2 n2 c2] h K := by
  refine ref01_SameInts.hc ?_
  unfold ref01_SameInts
  have l1 : xs.length = n := by have := h1.length; simpa using this
  have l2 : ys.length = n2 := by have := h2.length; simpa using this
  refine bcase_intro (fun hne => ?_) fun he => ?_
  · have : ¬ xs = ys := fun e => by subst e; simp at hne; omega
    simpa [this] using hk
  · have he : n = n2 := by simp at he; omega
    refine ⟨fun vs h' => ∃ i bb, vs = [.bool bb, .int .i64 (i : Nat)] ∧ h' = h ∧ i ≤ n ∧ ∀ j, j < i → xs[j]? = ys[j]?, fun vs _ => match vs with | [_, .int _ i] => n - i.toNat | _ => 0, ⟨0, false, rfl, rfl, by omega, by omega⟩, ?_⟩
    rintro h' b i ⟨j, bb, he', rfl, hj, hall⟩
    cases he'
    refine bcase_intro (fun hc => ?_) fun hc => ?_
    · have hc : j < n := by simpa using hc
      have e1 : xs[j]? = some xs[j] := List.getElem?_eq_getElem (by omega)
      have e2 : ys[j]? = some ys[j] := List.getElem?_eq_getElem (by omega)
      obtain ⟨p, hp0, hp⟩ := h1.get hc
      obtain ⟨q, hq0, hq⟩ := h2.get (i := j) (by omega)
      refine ⟨by omega, by omega, someD_of hp0 ⟨xs[j], by rw [Int.toNat_natCast, hp, ints_get, e1]; rfl, by omega, by omega, someD_of hq0 ⟨ys[j], by rw [Int.toNat_natCast, hq, ints_get, e2]; rfl, ?_⟩⟩⟩
      refine bcase_intro (fun hne => ?_) fun heq => ?_
      · have : ¬ xs = ys := fun e => by subst e; simp at hne
        simpa [this] using hk
      · have hw : IntKind.wrap .i64 ((j : Int) + 1) = ((j + 1 : Nat) : Int) := by rw [wrap_id (by omega) (by omega)]; omega
        unfold ref01_SameInts.k0
        rw [hw]
        refine ⟨⟨j + 1, b, rfl, rfl, by omega, fun k hk => ?_⟩, ?_⟩
        · by_cases hkj : k = j
          · subst hkj; rw [e1, e2]; simpa using heq
          · exact hall k (by omega)
        · show n - (j + 1) < n - j
          omega
    · have hc : j = n := by simp at hc; omega
      have : xs = ys := by
        apply List.ext_getElem?
        intro i
        by_cases hi : i < n
        · exact hall i (by omega)
        · rw [List.getElem?_eq_none (by omega), List.getElem?_eq_none (by omega)]
      simpa [this] using hk

theorem Pick_spec {h : Hp} {x n : Int} {K : Value → Hp → Prop} (hn : 1 ≤ n) (hN : n < 2 ^ 62) (hk : ∀ k : Nat, (k : Int) < n → K (.int .i64 k) h) : HC P ref01_Pick.n #[.int .i64 x, .int .i64 n] h K := by
  refine ref01_Pick.hc ?_
  unfold ref01_Pick
  have hlt : Int.tmod x n < n := Int.tmod_lt_of_pos x (by omega)
  have hgt : -n < Int.tmod x n := by exact Int.lt_tmod_of_pos x (by omega)
  refine bcase_intro (fun hc => by simp at hc; omega) fun _ => ⟨by omega, bcase_intro (fun hc => ?_) fun hc => ?_⟩
  · have hc : Int.tmod x n < 0 := by simpa using hc
    rw [wrap_id (by omega) (by omega)]
    have := hk (Int.tmod x n + n).toNat (by omega)
    rwa [show (((Int.tmod x n + n).toNat : Nat) : Int) = Int.tmod x n + n by omega] at this
  · have hc : 0 ≤ Int.tmod x n := by simpa using hc
    have := hk (Int.tmod x n).toNat (by omega)
    rwa [show (((Int.tmod x n).toNat : Nat) : Int) = Int.tmod x n by omega] at this


/-! ### The least number of a kind -/
theorem least_ex {p : Nat → Prop} (h : ∃ r, p r) : ∃ r, p r ∧ ∀ q, p q → r ≤ q := by
  obtain ⟨r, hr⟩ := h
  induction r using Nat.strongRecOn with
  | ind r ih =>
    by_cases hx : ∃ q, p q ∧ q < r
    · obtain ⟨q, hq, hlt⟩ := hx
      exact ih q hlt hq
    · exact ⟨r, hr, fun q hq => Nat.le_of_not_lt fun hlt => hx ⟨q, hq, hlt⟩⟩
open Classical in
noncomputable def least (p : Nat → Prop) : Nat := if h : ∃ r, p r then Classical.choose (least_ex h) else 0
theorem least_spec {p : Nat → Prop} (h : ∃ r, p r) : p (least p) ∧ ∀ q, p q → least p ≤ q := by
  unfold least; rw [dif_pos h]; exact Classical.choose_spec (least_ex h)

open Classical in
noncomputable def garbB (E : Nat → List Nat) (S : Nat → Prop) (c0 : List Int) (k : Nat) : Bool := decide (Cyc.Reach E S k ∧ ¬ Cyc.Reach E (Held E S c0) k)
/-- The garbage of a graph. -/
noncomputable def garb (n : Nat) (E : Nat → List Nat) (S : Nat → Prop) (c0 : List Int) : List Nat := (List.range n).filter (garbB E S c0)
theorem garbB_iff {E : Nat → List Nat} {S : Nat → Prop} {c0 : List Int} {k : Nat} : garbB E S c0 k = true ↔ Cyc.Reach E S k ∧ ¬ Cyc.Reach E (Held E S c0) k := by simp [garbB]

theorem iter_mu {n : Nat} {E : Nat → List Nat} {N : Nat} {s : St} (hE : ∀ i k, k ∈ E i → k < n) (w : WI n E N s) (m : Nat) (h3 : (iter E m s).sweep ≠ 3) : mu n E (iter E m s) + m ≤ mu n E s := by
  induction m generalizing s with
  | zero => exact Nat.le_refl _
  | succ m ih =>
    by_cases hs : s.sweep < 3
    · obtain ⟨w', hm⟩ := w.unit hE hs
      have : mu n E (iter E m (Cyc.unit E s)) + m ≤ mu n E (Cyc.unit E s) := ih w' h3
      show mu n E (iter E m (Cyc.unit E s)) + (m + 1) ≤ mu n E s
      omega
    · have := iter_over E (by omega : 3 ≤ s.sweep) (m + 1)
      rw [this] at h3
      have := w.sweep; omega

theorem msum_take {edg : List (List Int)} (n : Nat) : msum n (fun i => (edg.getD i []).length) = esum (edg.take n) := by
  induction n with
  | zero => rfl
  | succ n ih =>
    rw [msum_succ, ih]
    cases h : edg[n]? with
    | none =>
      have hl : edg.length ≤ n := by simpa using h
      rw [List.take_of_length_le hl, List.take_of_length_le (by omega), List.getD_eq_getElem?_getD, h]; rfl
    | some l => rw [esum_take h, List.getD_eq_getElem?_getD, h]; rfl

theorem edges_le {n : Nat} {edg : List (List Int)} : edges n (nodes n edg) ≤ esum edg := by
  refine Nat.le_trans (msum_le (g := fun i => (edg.getD i []).length) fun k _ => ?_) (by rw [msum_take]; exact esum_le)
  unfold deg nodes nodesOf
  rw [List.length_map]
  exact List.length_filter_le _ _

theorem nodes_lt {n : Nat} {edg : List (List Int)} (i k : Nat) (hk : k ∈ nodes n edg i) : k < n := by
  unfold nodes nodesOf at hk
  rw [List.mem_map] at hk
  obtain ⟨x, hx, rfl⟩ := hk
  have := (List.mem_filter.1 hx).2
  simp [good] at this
  omega

/-- From its beginning a run may go on. -/
theorem go_start {n : Nat} {edg : List (List Int)} {S : Nat → Prop} {c0 : List Int} {s : St} (m : Start n S c0 s) (h1 : n < 1048576) (h2 : esum edg < 268435456) (hc : ∀ c ∈ c0, 0 ≤ c ∧ c < 4294967296) : Go_ n (nodes n edg) s := by
  have w := m.wi (E := nodes n edg)
  have he := edges_le (n := n) (edg := edg)
  have hmu := m.mu (E := nodes n edg)
  have hN : 6 * n + 2 * edges n (nodes n edg) + 3 ≤ 2147483000 := by omega
  refine ⟨⟨w.lenC, w.lenK, w.sweep, w.waits, w.reach, w.node, w.at2, Nat.le_trans w.wl hN, Nat.le_trans w.rl hN, Nat.le_trans w.fl hN, Nat.le_trans w.al hN, Nat.le_trans w.el hN⟩, fun i k hk => nodes_lt i k hk, fun j => ?_⟩
  rw [m.counts]
  have : 0 ≤ c0.getD j 0 ∧ c0.getD j 0 < 4294967296 := by
    rw [List.getD_eq_getElem?_getD]
    cases hj : c0[j]? with
    | none => simp
    | some c => exact hc c (List.mem_of_getElem? hj)
  omega

theorem start_found {n : Nat} {E : Nat → List Nat} {S : Nat → Prop} {c0 : List Int} {s : St} (hE : ∀ i k, k ∈ E i → k < n) (hS : ∀ k, S k → k < n) (m : Start n S c0 s) (r : Nat) (h3 : (iter E r s).sweep = 3) : (iter E r s).found = garb n E S c0 :=
  ((m.inv (E := E) (G := garbB E S c0)).iter ⟨hE, hS⟩ (fun k => garbB_iff) r).found h3

theorem garb_len {n : Nat} {E : Nat → List Nat} {S : Nat → Prop} {c0 : List Int} : (garb n E S c0).length ≤ n := by
  refine Nat.le_trans (List.length_filter_le _ _) (by simp)

def susOf (n : Nat) (sus : List Int) (k : Nat) : Prop := k < n ∧ (k : Int) ∈ sus

theorem Garbage_spec {h : Hp} {cs : Array Value} {cnt : List Int} {edg : List (List Int)} {a : Option Addr} {len cap : Nat} {sus : List Int} {K : Value → Hp → Prop}
    (g : GrAt h cs cnt edg) (hs : SrcAt h 1 (.slice a len cap) len (ints sus)) (q1 : cnt.length < 1048576) (q2 : ∀ c ∈ cnt, 0 ≤ c ∧ c < 4294967296) (q3 : edg.length < 1048576) (q4 : esum edg < 268435456) (q5 : len < 9223372036854775808)
    (hk : ∀ h' a' c' o', Ints h' a' (garb cnt.length (nodes cnt.length edg) (susOf cnt.length sus) cnt).length c' (znat (garb cnt.length (nodes cnt.length edg) (susOf cnt.length sus) cnt)) o' → Step [] h o' h' → K (.slice a' (garb cnt.length (nodes cnt.length edg) (susOf cnt.length sus) cnt).length c') h') :
    HC P cycle_Garbage.n #[.agg cs, .slice a len cap] h K := by
  refine cycle_Garbage.hc ?_
  unfold cycle_Garbage
  intro b0 hb0
  have hS0 : Step [] h [] (h.put b0 (.cells cs T.api_Graph (0, 0))) := Step.put (.inr hb0)
  have hsz : cs.size = 2 := by obtain ⟨_, _, _, _, _, rfl, _⟩ := g; rfl
  refine ⟨cs, cellsAt_put hsz, ?_⟩
  refine Begin_spec (g.sub hS0.sub0) (hs.sub hS0.sub0) q1 q2 q3 (by omega) q5 fun h0 b x s R m S => ⟨_, rfl, ?_⟩
  obtain ⟨n, hn⟩ : ∃ n, n = cnt.length := ⟨_, rfl⟩
  obtain ⟨E, hE⟩ : ∃ E, E = nodes n edg := ⟨_, rfl⟩
  have m : Start cnt.length (susOf cnt.length sus) cnt s := m
  rw [← hn] at hk m R q1
  rw [← hE] at hk R
  have gg : Go_ n E s := by rw [hE]; exact go_start m q1 q4 q2
  have hEl : ∀ i k, k ∈ E i → k < n := gg.edge
  have hfd : ∀ r, (iter E r s).sweep = 3 → (iter E r s).found = garb n E (susOf n sus) cnt := fun r h3 => start_found hEl (fun k hk => hk.1) m r h3
  have hS : Step [] h (x.own b) h0 := hS0.trans S
  refine ⟨fun vs hh => ∃ r y, RunX hh b n E (iter E r s) y ∧ Step [] h (y.own b) hh, fun _ hh => least fun q => ∃ r y, RunX hh b n E (iter E r s) y ∧ Step [] h (y.own b) hh ∧ mu n E (iter E r s) = q, ?_⟩
  unfold cycle_Garbage.k2
  refine ⟨⟨0, x, R, hS⟩, ?_⟩
  rintro h1 ⟨r0, y0, R0, S0⟩
  obtain ⟨⟨r, y, R1, S1, hmin⟩, -⟩ := least_spec (p := fun q => ∃ r y, RunX h1 b n E (iter E r s) y ∧ Step [] h (y.own b) h1 ∧ mu n E (iter E r s) = q) ⟨_, r0, y0, R0, S0, rfl⟩
  have gr := gg.iter r
  obtain ⟨T, hT⟩ : ∃ T : Nat, T = 1000 := ⟨_, rfl⟩
  refine Step_spec R1 gr (by omega) fun h2 ⟨y2, R2, S2⟩ => ⟨_, rfl, ?_⟩
  have e1000 : iter E (1000 : Int).toNat (iter E r s) = iter E (r + T) s := by rw [iter_add, hT]; exact congrArg (fun q => iter E q (iter E r s)) rfl
  rw [e1000] at R2 ⊢
  have S12 := S1.trans S2
  unfold cycle_Garbage.k1
  refine bcase_intro (fun hb => ?_) fun hb => ?_
  · have h3 : (iter E (r + T) s).sweep ≠ 3 := by simpa using hb
    refine ⟨⟨_, y2, R2, S12⟩, ?_⟩
    have hlt : mu n E (iter E (r + T) s) + T ≤ mu n E (iter E r s) := by
      rw [iter_add] at h3 ⊢
      exact iter_mu hEl gr.wi T h3
    have hle := (least_spec (p := fun q => ∃ r y, RunX h2 b n E (iter E r s) y ∧ Step [] h (y.own b) h2 ∧ mu n E (iter E r s) = q) ⟨_, _, y2, R2, S12, rfl⟩).2 _ ⟨_, y2, R2, S12, rfl⟩
    simp only []
    rw [← hmin]
    exact Nat.lt_of_le_of_lt hle (by omega)
  · have h3 : (iter E (r + T) s).sweep = 3 := by simpa using hb
    unfold cycle_Garbage.k0
    have hf := hfd _ h3
    have hgl := garb_len (n := n) (E := E) (S := susOf n sus) (c0 := cnt)
    refine RunGarbage_spec R2 h3 (by rw [hf]; omega) fun h4 a' o hi hs4 => ⟨_, _, _, rfl, ?_⟩
    rw [hf] at hi ⊢
    exact hk h4 a' _ o hi (((S12.trans (hs4.frame (y2.own b))).weak (fun _ h => h) fun k hk => .inl (by simp [hk])))

end Go.Den.Cycle
