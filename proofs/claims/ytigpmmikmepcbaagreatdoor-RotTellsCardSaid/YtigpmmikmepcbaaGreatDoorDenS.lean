import Derived.Test.YtigpmmikmepcbaaGreatDoorB26
/- Texts that the claim needs, joined. -/
section
set_option linter.unusedVariables false
namespace Go.Den
variable {P : Program}
theorem append_row {sT xT t elem e' : TypeId} {sz : Nat} {a : Option Addr} {len cap n : Nat} {Z : Value → Prop} {vs cs : List Value} {o : List Nat} {x : Value} {h : Hp} {K : Value → Hp → Prop}
    (hT : SliceTy P sT elem sz) (hX : P.underlying xT = some (.slice e')) (hs : SlAt h elem sz Z a len cap vs o) (hZ : ∀ i z, P.info? elem = some i → i.zero = some z → ∀ v ∈ z.cells, Z v) (hx : SrcAt h sz x n cs) (hcell : ∀ v ∈ cs, cellish v = true) (hn : len + n < 2 ^ 32)
    (hk : ∀ a' cap' o' h', SlAt h' elem sz Z a' (len + n) cap' (vs ++ cs) o' → (len + n ≤ cap → a' = a ∧ cap' = cap ∧ o' = o) → (cap < len + n → ∃ g, a' = some ⟨g, 0, none⟩) → Step o h o' h' → K (.slice a' (len + n) cap') h') :
    wpSem P (Builtin.append_ #[sT, xT] t #[.slice a len cap, x]) K h := by
  obtain ⟨hu, i, z, hi, hsz, hz, hzs, hb, hb0⟩ := hT
  unfold Builtin.append_
  simp only [List.getElem?_toArray, List.getElem?_cons_zero, List.getElem?_cons_succ]
  refine wpSem_bind _ _ _ _ (wp_underlying hu ?_)
  simp only []
  refine wpSem_bind _ _ _ _ (wp_sizeOf hi ?_)
  refine wpSem_bind _ _ _ _ (wpSem_bind _ _ _ _ (wp_underlying hX ?_))
  simp only []
  refine wp_pure (P := P) ?_
  refine wpSem_bind _ _ _ _ (wp_pure (P := P) ?_)
  simp only [Bool.false_eq_true, if_false]
  refine wpSem_bind _ _ _ _ (wp_lenOf hx ?_)
  simp only [hsz, Bool.not_false, if_true]
  by_cases hroom : len + n ≤ cap
  · rw [if_pos hroom]
    refine wpSem_bind _ _ _ _ (wp_first hx ?_)
    cases hs with
    | none =>
      obtain rfl : n = 0 := by omega
      have : cs = [] := by have := hx.length; simpa using this
      subst this
      exact wpSem_bind _ _ _ _ (wp_pure (wp_pure (hk _ _ [] h .none (fun _ => ⟨rfl, rfl, rfl⟩) (fun hh => absurd hroom (by omega)) (Step.refl _ _))))
    | @some b off len cap pre vs rest post hb1 hp h1 h2 h3 h4 =>
      have hcl := hx.length
      obtain ⟨mid, rest', rfl, hmid⟩ : ∃ mid rest', rest = mid ++ rest' ∧ mid.length = cs.length := ⟨rest.take cs.length, rest.drop cs.length, (List.take_append_drop _ _).symm, by
        rw [List.length_take, h2, hcl]
        exact Nat.min_eq_left (Nat.mul_le_mul_right _ (by omega))⟩
      refine wpSem_bind _ _ _ _ (wp_storeCells _ cs 0 h _ hcell (fun j hj => ?_) (wp_pure ?_))
      · simp only [Addr.add_mk]
        refine ⟨?_, frozen_of hb1⟩
        rw [cell_of hb1]
        refine ⟨_, Array.getElem?_eq_getElem (?_ : _ < _)⟩
        simp; omega
      · rw [Addr.add_mk, setCellsFrom_split (T := elem) (f := (0, 0)) cs mid (pre ++ vs) (rest' ++ post) 0 h (by rw [hb1]; simp) (by simp [h1, hp]) hmid]
        refine hk _ _ [b] _ (.some (b := b) (pre := pre) (rest := rest') (post := post) (by rw [put_self]; simp) hp (by simp [h1, hcl, Nat.add_mul]) ?_ hroom fun v hv => h4 v (by simp [hv])) (fun _ => ⟨rfl, rfl, rfl⟩) (fun hh => absurd hroom (by omega)) (Step.put (.inl (by simp)))
        simp at h2
        have e1 : (cap - len) * sz = n * sz + (cap - (len + n)) * sz := by
          rw [← Nat.add_mul]; congr 1; omega
        omega
  · rw [if_neg hroom]
    have hneed : cap < len + n := by omega
    have hns := nextslicecap_le hneed
    have hold := hs.src
    refine wpSem_bind _ _ _ _ (wp_typeInfo hi ?_)
    rw [if_neg (by
      rintro ⟨h1, _⟩
      have : IntKind.i64.max = 9223372036854775807 := rfl
      omega)]
    refine wpSem_bind _ _ _ _ (wp_typeInfo hi ?_)
    have hbig : Builtin.nextslicecap (len + n) cap * i.bytes ≤ 2 ^ 48 := by
      refine Nat.le_trans (Nat.mul_le_mul hns hb) ?_
      omega
    rw [if_neg (by omega)]
    refine wpSem_bind _ _ _ _ ?_
    intro tt
    obtain ⟨c, hc, hle⟩ : ∃ c, (if (Question.appendCap (len + n) cap elem).forced then 0 else (Question.appendCap (len + n) cap elem).cut tt) = c ∧ len + n ≤ c :=
      ⟨_, rfl, by simp [Question.forced, Question.cut]⟩
    show wpSem P (Sem.pure (if (Question.appendCap (len + n) cap elem).forced then 0 else (Question.appendCap (len + n) cap elem).cut tt)) _ h
    rw [hc]
    refine wp_pure (P := P) ?_
    refine wpSem_bind _ _ _ _ (wp_typeInfo hi ?_)
    refine wpSem_bind _ _ _ _ ?_
    have hask : ∀ (m : Nat) (K : Unit → Hp → Prop), K () h → wpSem P (askRoom m) K h := by
      intro m K hK; unfold askRoom; split <;> exact hK
    refine hask _ _ ?_
    refine wpSem_bind _ _ _ _ (wp_first hold ?_)
    refine wpSem_bind _ _ _ _ (wp_first hx ?_)
    refine wpSem_bind _ _ _ _ (wp_zeroValue hi hz ?_)
    refine wpSem_bind _ _ _ _ ?_
    unfold newRow newObj
    refine wpSem_bind _ _ _ _ ?_
    intro b hb1
    refine wp_pure (P := P) (wp_pure (P := P) (wp_pure (P := P) ?_))
    refine hk _ _ [b] _ (.some (b := b) (pre := []) (rest := (Builtin.zeroCells z.cells (c - (len + n))).toList) (post := []) (by rw [put_self]; simp) rfl ?_ ?_ hle fun v hv => ?_) (fun hh => absurd hh hroom) (fun _ => ⟨_, rfl⟩) ?_
    · have h1 := hold.length; have h2 := hx.length
      simp [h1, h2, Nat.add_mul]
    · simp [zeroCells_size, hzs]
    · simp only [Builtin.zeroCells, Array.toList_map, Array.toList_range, List.mem_map, List.mem_range] at hv
      obtain ⟨j, hj, rfl⟩ := hv
      have hpos : 0 < z.cells.size := by
        rcases Nat.eq_zero_or_pos z.cells.size with h0 | h0
        · rw [h0] at hj; simp at hj
        · exact h0
      refine hZ i z hi hz _ ?_
      rw [getElem!_pos z.cells (j % z.cells.size) (Nat.mod_lt _ hpos)]
      exact Array.getElem_mem _
    · exact (Step.put (.inr hb1)).weak (fun _ hk => hk) fun k hk => by
        simp at hk; subst hk; exact .inr (.inr hb1)
theorem append_str {sT xT t elem : TypeId} {sz : Nat} {a : Option Addr} {len cap n : Nat} {Z : Value → Prop} {vs cs : List Value} {o : List Nat} {s : ByteArray} {h : Hp} {K : Value → Hp → Prop}
    (hT : SliceTy P sT elem sz) (hX : P.underlying xT = some .string) (hs : SlAt h elem sz Z a len cap vs o) (hZ : ∀ i z, P.info? elem = some i → i.zero = some z → ∀ v ∈ z.cells, Z v) (h1 : sz = 1) (hsn : s.size = n) (hcs : cs = s.data.toList.map fun (b : UInt8) => .int .u8 (b.toNat : Int)) (hn : len + n < 2 ^ 32)
    (hk : ∀ a' cap' o' h', SlAt h' elem sz Z a' (len + n) cap' (vs ++ cs) o' → (len + n ≤ cap → a' = a ∧ cap' = cap ∧ o' = o) → (cap < len + n → ∃ g, a' = some ⟨g, 0, none⟩) → Step o h o' h' → K (.slice a' (len + n) cap') h') :
    wpSem P (Builtin.append_ #[sT, xT] t #[.slice a len cap, .string s]) K h := by
  obtain ⟨hu, i, z, hi, hsz, hz, hzs, hb, hb0⟩ := hT
  have hcell : ∀ v ∈ cs, cellish v = true := by intro v hv; rw [hcs] at hv; obtain ⟨x, -, rfl⟩ := List.mem_map.1 hv; rfl
  have hcl : cs.length = n * sz := by rw [hcs, List.length_map, h1, ← hsn, Nat.mul_one]; rfl
  have hf : ∀ (C : Array Value → Hp → Prop) (hh : Hp), C cs.toArray hh → wpSem P (Builtin.firstCells sz n (.string s)) C hh := by
    intro C hh hk
    have e : ((s.extract 0 n).data.map fun (b : UInt8) => (Value.int .u8 (b.toNat : Int))) = cs.toArray := by
      apply Array.ext'
      rw [hcs, ← hsn]
      have e2 : s.extract 0 s.size = s := by simp
      rw [e2]; simp
    show C ((s.extract 0 n).data.map fun (b : UInt8) => (Value.int .u8 (b.toNat : Int))) hh
    rw [e]; exact hk
  have hlo : ∀ (C : Nat → Hp → Prop) (hh : Hp), C n hh → wpSem P (Builtin.lenOf (.string s)) C hh := by
    intro C hh hk
    show C s.size hh
    rw [hsn]; exact hk
  clear h1
  unfold Builtin.append_
  simp only [List.getElem?_toArray, List.getElem?_cons_zero, List.getElem?_cons_succ]
  refine wpSem_bind _ _ _ _ (wp_underlying hu ?_)
  simp only []
  refine wpSem_bind _ _ _ _ (wp_sizeOf hi ?_)
  refine wpSem_bind _ _ _ _ (wpSem_bind _ _ _ _ (wp_underlying hX ?_))
  simp only []
  refine wp_pure (P := P) ?_
  refine wpSem_bind _ _ _ _ (wp_pure (P := P) ?_)
  simp only [Bool.false_eq_true, if_false]
  refine wpSem_bind _ _ _ _ (hlo _ _ ?_)
  simp only [hsz, Bool.not_false, if_true]
  by_cases hroom : len + n ≤ cap
  · rw [if_pos hroom]
    refine wpSem_bind _ _ _ _ (hf _ _ ?_)
    cases hs with
    | none =>
      obtain rfl : n = 0 := by omega
      have : cs = [] := by simpa using hcl
      subst this
      exact wpSem_bind _ _ _ _ (wp_pure (wp_pure (hk _ _ [] h .none (fun _ => ⟨rfl, rfl, rfl⟩) (fun hh => absurd hroom (by omega)) (Step.refl _ _))))
    | @some b off len cap pre vs rest post hb1 hp h1 h2 h3 h4 =>
      obtain ⟨mid, rest', rfl, hmid⟩ : ∃ mid rest', rest = mid ++ rest' ∧ mid.length = cs.length := ⟨rest.take cs.length, rest.drop cs.length, (List.take_append_drop _ _).symm, by
        rw [List.length_take, h2, hcl]
        exact Nat.min_eq_left (Nat.mul_le_mul_right _ (by omega))⟩
      refine wpSem_bind _ _ _ _ (wp_storeCells _ cs 0 h _ hcell (fun j hj => ?_) (wp_pure ?_))
      · simp only [Addr.add_mk]
        refine ⟨?_, frozen_of hb1⟩
        rw [cell_of hb1]
        refine ⟨_, Array.getElem?_eq_getElem (?_ : _ < _)⟩
        simp; omega
      · rw [Addr.add_mk, setCellsFrom_split (T := elem) (f := (0, 0)) cs mid (pre ++ vs) (rest' ++ post) 0 h (by rw [hb1]; simp) (by simp [h1, hp]) hmid]
        refine hk _ _ [b] _ (.some (b := b) (pre := pre) (rest := rest') (post := post) (by rw [put_self]; simp) hp (by simp [h1, hcl, Nat.add_mul]) ?_ hroom fun v hv => h4 v (by simp [hv])) (fun _ => ⟨rfl, rfl, rfl⟩) (fun hh => absurd hroom (by omega)) (Step.put (.inl (by simp)))
        simp at h2
        have e1 : (cap - len) * sz = n * sz + (cap - (len + n)) * sz := by
          rw [← Nat.add_mul]; congr 1; omega
        omega
  · rw [if_neg hroom]
    have hneed : cap < len + n := by omega
    have hns := nextslicecap_le hneed
    have hold := hs.src
    refine wpSem_bind _ _ _ _ (wp_typeInfo hi ?_)
    rw [if_neg (by
      rintro ⟨h1, _⟩
      have : IntKind.i64.max = 9223372036854775807 := rfl
      omega)]
    refine wpSem_bind _ _ _ _ (wp_typeInfo hi ?_)
    have hbig : Builtin.nextslicecap (len + n) cap * i.bytes ≤ 2 ^ 48 := by
      refine Nat.le_trans (Nat.mul_le_mul hns hb) ?_
      omega
    rw [if_neg (by omega)]
    refine wpSem_bind _ _ _ _ ?_
    intro tt
    obtain ⟨c, hc, hle⟩ : ∃ c, (if (Question.appendCap (len + n) cap elem).forced then 0 else (Question.appendCap (len + n) cap elem).cut tt) = c ∧ len + n ≤ c :=
      ⟨_, rfl, by simp [Question.forced, Question.cut]⟩
    show wpSem P (Sem.pure (if (Question.appendCap (len + n) cap elem).forced then 0 else (Question.appendCap (len + n) cap elem).cut tt)) _ h
    rw [hc]
    refine wp_pure (P := P) ?_
    refine wpSem_bind _ _ _ _ (wp_typeInfo hi ?_)
    refine wpSem_bind _ _ _ _ ?_
    have hask : ∀ (m : Nat) (K : Unit → Hp → Prop), K () h → wpSem P (askRoom m) K h := by
      intro m K hK; unfold askRoom; split <;> exact hK
    refine hask _ _ ?_
    refine wpSem_bind _ _ _ _ (wp_first hold ?_)
    refine wpSem_bind _ _ _ _ (hf _ _ ?_)
    refine wpSem_bind _ _ _ _ (wp_zeroValue hi hz ?_)
    refine wpSem_bind _ _ _ _ ?_
    unfold newRow newObj
    refine wpSem_bind _ _ _ _ ?_
    intro b hb1
    refine wp_pure (P := P) (wp_pure (P := P) (wp_pure (P := P) ?_))
    refine hk _ _ [b] _ (.some (b := b) (pre := []) (rest := (Builtin.zeroCells z.cells (c - (len + n))).toList) (post := []) (by rw [put_self]; simp) rfl ?_ ?_ hle fun v hv => ?_) (fun hh => absurd hh hroom) (fun _ => ⟨_, rfl⟩) ?_
    · have h1 := hold.length; have h2 := hcl
      simp [h1, h2, Nat.add_mul]
    · simp [zeroCells_size, hzs]
    · simp only [Builtin.zeroCells, Array.toList_map, Array.toList_range, List.mem_map, List.mem_range] at hv
      obtain ⟨j, hj, rfl⟩ := hv
      have hpos : 0 < z.cells.size := by
        rcases Nat.eq_zero_or_pos z.cells.size with h0 | h0
        · rw [h0] at hj; simp at hj
        · exact h0
      refine hZ i z hi hz _ ?_
      rw [getElem!_pos z.cells (j % z.cells.size) (Nat.mod_lt _ hpos)]
      exact Array.getElem_mem _
    · exact (Step.put (.inr hb1)).weak (fun _ hk => hk) fun k hk => by
        simp at hk; subst hk; exact .inr (.inr hb1)
end Go.Den
end

