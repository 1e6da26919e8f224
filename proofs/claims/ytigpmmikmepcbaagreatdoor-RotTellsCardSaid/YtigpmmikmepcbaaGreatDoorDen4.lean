import Derived.Test.YtigpmmikmepcbaaGreatDoorDenE
/- Texts that the claim needs, joined. -/
section
set_option linter.unusedVariables false
namespace Go.Den
variable {P : Program}
/-! ### Parts of values -/
def partD (P : Program) (t : TypeId) (cs : Array Value) (off : Nat) (K : Value → Hp → Prop) (h : Hp) : Prop :=
  match P.underlying t with
  | some (.struct _) => sizeD P t fun n => K (.agg (cs.extract off (off + n))) h
  | some (.array _ _) => sizeD P t fun n => K (.agg (cs.extract off (off + n))) h
  | some _ => exT P t fun v => cs[off]? = some v ∧ K v h
  | none => False
theorem partD_sound {t : TypeId} {cs : Array Value} {off : Nat} {K : Value → Hp → Prop} {h : Hp} (hh : partD P t cs off K h) : wpSem P (part t cs off) K h := by
  unfold part
  unfold partD at hh
  split at hh
  · rename_i hd
    obtain ⟨i, hi, hk⟩ := sizeD_elim hh
    exact wpSem_bind _ _ _ _ (wp_isAgg hd (wpSem_bind _ _ _ _ (wp_sizeOf hi hk)))
  · rename_i hd
    obtain ⟨i, hi, hk⟩ := sizeD_elim hh
    exact wpSem_bind _ _ _ _ (wp_isAgg hd (wpSem_bind _ _ _ _ (wp_sizeOf hi hk)))
  · rename_i d h1 h2 hd
    obtain ⟨v, hv, hk⟩ := exT_elim hh
    refine wpSem_bind _ _ _ _ (wp_isAgg hd ?_)
    have : isAggD d = false := by
      cases d <;> first | rfl | (exact absurd rfl (h1 _)) | (exact absurd rfl (h2 _ _))
    rw [this]
    show wpSem P (match cs[off]? with | some v => pure v | none => stuck "part: no such cell") K h
    rw [hv]; exact hk
  · exact hh.elim
def fieldVD (P : Program) (t : TypeId) (x : Value) (f : Nat) (K : Value → Hp → Prop) (h : Hp) : Prop :=
  match P.underlying t, x with
  | some (.struct fs), .agg cs => (match fs[f]? with | some fd => partD P fd.type cs fd.offset K h | none => False)
  | _, _ => False
theorem fieldVD_sound {t : TypeId} {x : Value} {f : Nat} {K : Value → Hp → Prop} {h : Hp} (hh : fieldVD P t x f K h) : wpSem P (Instr.field t x f) K h := by
  unfold fieldVD at hh
  split at hh
  case h_2 => exact hh.elim
  rename_i fs cs hd
  split at hh
  case h_2 => exact hh.elim
  rename_i fd hf
  unfold Instr.field
  refine wpSem_bind _ _ _ _ (wp_underlying hd ?_)
  simp only [hf]
  exact partD_sound hh
def indexVD (P : Program) (t : TypeId) (x i : Value) (K : Value → Hp → Prop) (h : Hp) : Prop :=
  match P.underlying t, x, i with
  | some (.array len e), .agg cs, .int _ i => 0 ≤ i ∧ i < (len : Int) ∧ sizeD P e fun n => partD P e cs (i.toNat * n) K h
  | some .string, .string s, .int _ i => 0 ≤ i ∧ ∃ b : UInt8, s[i.toNat]? = some b ∧ K (.int .u8 b.toNat) h
  | _, _, _ => False
theorem indexVD_sound {t : TypeId} {x i : Value} {K : Value → Hp → Prop} {h : Hp} (hh : indexVD P t x i K h) : wpSem P (Instr.index t x i) K h := by
  unfold indexVD at hh
  split at hh
  · rename_i len e cs k i hd
    obtain ⟨h0, h1, hh⟩ := hh
    obtain ⟨inf, hi, hk⟩ := sizeD_elim hh
    unfold Instr.index
    refine wpSem_bind _ _ _ _ ?_
    show wpSem P (pure _) _ h
    refine wp_pure ?_
    refine wpSem_bind _ _ _ _ (wp_underlying hd ?_)
    simp only [h0, h1, and_self, if_true]
    exact wpSem_bind _ _ _ _ (wp_sizeOf hi (partD_sound hk))
  · rename_i s k i hd
    obtain ⟨h0, b, hb, hk⟩ := hh
    unfold Instr.index
    refine wpSem_bind _ _ _ _ ?_
    show wpSem P (pure _) _ h
    refine wp_pure ?_
    refine wpSem_bind _ _ _ _ (wp_underlying hd ?_)
    simp only [h0, if_true, hb]
    exact hk
  · exact hh.elim
/-! ### Slicing -/
def offA (a : Option Addr) (cap lo size : Nat) : Option Addr := if cap = lo then a else a.map (·.add (lo * size))
def hiD (v : Option Value) (len cap : Nat) (k : Nat → Prop) : Prop :=
  match v with
  | none => k len
  | some (.int _ n) => 0 ≤ n ∧ n ≤ (cap : Int) ∧ k n.toNat
  | _ => False
def loD (v : Option Value) (hi : Nat) (k : Nat → Prop) : Prop :=
  match v with
  | none => k 0
  | some (.int _ n) => 0 ≤ n ∧ n ≤ (hi : Int) ∧ k n.toNat
  | _ => False
theorem wp_bound {v : Value} {y : Nat} {c : BoundsCode} {K : Nat → Hp → Prop} {h : Hp} {k : IntKind} {n : Int} (hv : v = .int k n) (h0 : 0 ≤ n) (h1 : n ≤ (y : Int)) (hk : K n.toNat h) : wpSem P (Instr.sliceBound v y c) K h := by
  subst hv
  unfold Instr.sliceBound
  refine wpSem_bind _ _ _ _ ?_
  show wpSem P (pure _) _ h
  refine wp_pure ?_
  simp only [h0, h1, and_self, if_true]
  exact hk
theorem wp_bounds {isS : Bool} {len cap : Nat} {lo hi : Option Value} {φ : Nat → Nat → Prop} {K : Nat × Nat × Nat → Hp → Prop} {h : Hp}
    (hh : hiD hi len cap fun H => loD lo H fun L => φ L H) (hk : ∀ L H, φ L H → K (L, H, cap) h) : wpSem P (Instr.sliceBounds isS len cap lo hi none) K h := by
  unfold Instr.sliceBounds
  refine wpSem_bind _ _ _ _ (wp_pure ?_)
  have low : ∀ H, (loD lo H fun L => φ L H) → ∀ c, wpSem P (match lo with | some v => (Instr.sliceBound v H c >>= fun l => pure (l, H, cap)) | none => pure (0, H, cap)) K h := by
    intro H hl c
    cases lo with
    | none => exact wp_pure (hk _ _ hl)
    | some v =>
      unfold loD at hl
      split at hl
      · contradiction
      · rename_i n e; cases e
        exact wpSem_bind _ _ _ _ (wp_bound rfl hl.1 hl.2.1 (hk _ _ hl.2.2))
      · exact hl.elim
  cases hi with
  | none =>
    have := low len hh .sliceB
    cases lo <;> exact this
  | some v =>
    unfold hiD at hh
    split at hh
    · contradiction
    · rename_i n e; cases e
      refine wpSem_bind _ _ _ _ (wp_bound rfl hh.1 hh.2.1 ?_)
      have := low _ hh.2.2 .sliceB
      cases lo <;> exact this
    · exact hh.elim
def sliceD (P : Program) (t : TypeId) (x : Value) (lo hi mx : Option Value) (K : Value → Hp → Prop) (h : Hp) : Prop :=
  match P.underlying t, x, mx with
  | some (.slice e), .slice a len cap, none => hiD hi len cap fun H => loD lo H fun L => sizeD P e fun n => K (.slice (offA a cap L n) (H - L) (cap - L)) h
  | some .string, .string s, none => hiD hi s.size s.size fun H => loD lo H fun L => K (.string (s.extract L H)) h
  | some (.array len e), .pointer a, none => someD a fun p => hiD hi len len fun H => loD lo H fun L => sizeD P e fun n => K (.slice (offA (some p) len L n) (H - L) (len - L)) h
  | _, _, _ => False
theorem offA_some (p : Addr) (cap lo size : Nat) : offA (some p) cap lo size = some (if cap = lo then p else p.add (lo * size)) := by
  unfold offA; split <;> rfl
theorem sliceD_sound {t : TypeId} {x : Value} {lo hi mx : Option Value} {K : Value → Hp → Prop} {h : Hp} (hh : sliceD P t x lo hi mx K h) : wpSem P (Instr.sliceAt t x lo hi mx) K h := by
  unfold sliceD at hh
  split at hh
  · rename_i e a len cap hd
    unfold Instr.sliceAt
    refine wpSem_bind _ _ _ _ (wp_underlying hd ?_)
    simp only []
    unfold Instr.slice
    refine wpSem_bind _ _ _ _ (wp_underlying hd ?_)
    simp only []
    refine wpSem_bind _ _ _ _ (wp_bounds hh fun L H hφ => ?_)
    obtain ⟨i, hi', hk⟩ := sizeD_elim hφ
    exact wpSem_bind _ _ _ _ (wp_sizeOf hi' hk)
  · rename_i s hd
    unfold Instr.sliceAt
    refine wpSem_bind _ _ _ _ (wp_underlying hd ?_)
    simp only []
    unfold Instr.slice
    refine wpSem_bind _ _ _ _ (wp_underlying hd ?_)
    simp only []
    exact wpSem_bind _ _ _ _ (wp_bounds hh fun L H hφ => hφ)
  · rename_i len e a hd
    obtain ⟨p, rfl, hh2⟩ := someD_elim hh
    unfold Instr.sliceAt
    refine wpSem_bind _ _ _ _ (wp_underlying hd ?_)
    simp only []
    refine wpSem_bind _ _ _ _ ?_
    show wpSem P (pure p) _ h
    refine wp_pure ?_
    refine wpSem_bind _ _ _ _ (wp_bounds hh2 fun L H hφ => ?_)
    obtain ⟨i, hi', hk⟩ := sizeD_elim hφ
    refine wpSem_bind _ _ _ _ (wp_sizeOf hi' ?_)
    rw [offA_some] at hk
    exact hk
  · exact hh.elim
/-! ### A computation -/
def evalPure (P : Program) {α : Type} : Sem α → Option α
  | .pure a => some a
  | .program k => evalPure P (k P)
  | _ => none
theorem evalPure_wp {α : Type} : ∀ {s : Sem α} {a : α} {K : α → Hp → Prop} {h : Hp}, evalPure P s = some a → K a h → wpSem P s K h := by
  intro s
  induction s with
  | pure a => intro b K h he hk; cases he; exact hk
  | program k ih => intro b K h he hk; exact ih P he hk
  | _ => intro b K h he; cases he
def genD (q : Bool) (P : Program) (s : Sem Value) (K : Value → Hp → Prop) (h : Hp) : Prop :=
  match q with
  | false => wpSem P s K h
  | true => (match evalPure P s with | some v => K v h | none => False)
theorem genD_wp {q : Bool} {s : Sem Value} {K : Value → Hp → Prop} {h : Hp} (hh : genD q P s K h) : wpSem P s K h := by
  cases q with
  | false => exact hh
  | true =>
    unfold genD at hh
    simp only [] at hh
    split at hh
    · exact evalPure_wp (by assumption) hh
    · exact hh.elim
/-! ### Two operands -/
def isNilConst : Operand → Bool
  | .const (.pointer none) => true
  | .const (.slice none 0 0) => true
  | .const (.map none) => true
  | _ => false
def nilOf (P : Program) (t : TypeId) (v : Value) (y : Value) (k : Bool → Prop) (els : Prop) : Prop :=
  match P.underlying t, v, y with
  | some (.pointer _), .pointer a, .pointer none => k a.isNone
  | some (.slice _), .slice a _ _, .slice none _ _ => k a.isNone
  | some (.map _ _), .map a, .map none => k a.isNone
  | _, _, _ => els
def binD0 (q : Bool) (P : Program) (op : BinOp) (t : TypeId) (x y : Operand) (a b : Value) (K : Value → Hp → Prop) (h : Hp) : Prop :=
  match op, a, b with
  | .quo, .int k m, .int k' n => (match decide (k = k') with | true => n ≠ 0 ∧ K (.int k (k.wrap (m.tdiv n))) h | false => False)
  | .rem, .int k m, .int k' n => (match decide (k = k') with | true => n ≠ 0 ∧ K (.int k (m.tmod n)) h | false => False)
  | .shl, .int k m, .int _ n => 0 ≤ n ∧ K (.int k (k.wrap (m * 2 ^ (min n.toNat k.bits)))) h
  | .shr, .int k m, .int _ n => 0 ≤ n ∧ K (.int k (m.fdiv (2 ^ (min n.toNat k.bits)))) h
  | .eql, .agg xs, .agg ys => eqAggD P t (.agg xs) (.agg ys) fun r => K (.bool r) h
  | .neq, .agg xs, .agg ys => eqAggD P t (.agg xs) (.agg ys) fun r => K (.bool (!r)) h
  | .add, .string a, .string b => a.size + b.size ≤ 9223372036854775807 ∧ K (.string (a ++ b)) h
  | op, a, b =>
    match isNilConst y, op with
    | true, .eql => nilOf P t a b (fun r => K (.bool r) h) (genD q P (do eqGuard op t x y a b; binOp op t a b) K h)
    | true, .neq => nilOf P t a b (fun r => K (.bool (!r)) h) (genD q P (do eqGuard op t x y a b; binOp op t a b) K h)
    | _, _ => genD q P (do eqGuard op t x y a b; binOp op t a b) K h
def nilRight : Operand → Value → Bool
  | .const .nilIface, .nilIface => true
  | _, _ => false
def isIface : Option TypeDesc → Bool
  | some (.interface _) => true
  | _ => false
def binD (q : Bool) (P : Program) (op : BinOp) (t : TypeId) (x y : Operand) (a b : Value) (K : Value → Hp → Prop) (h : Hp) : Prop :=
  match nilRight y b && isIface (P.underlying t), op with
  | true, .eql => (a = .nilIface ∧ K (.bool true) h) ∨ ∃ (t' : TypeId) (v : Value), a = .iface t' v ∧ K (.bool false) h
  | true, .neq => (a = .nilIface ∧ K (.bool false) h) ∨ ∃ (t' : TypeId) (v : Value), a = .iface t' v ∧ K (.bool true) h
  | _, _ => binD0 q P op t x y a b K h
theorem wp_eqGuard_ok {op : BinOp} {t : TypeId} {x y : Operand} {a b : Value} {K : Value → Hp → Prop} {h : Hp} (hg : eqGuard op t x y a b = pure ()) (hk : wpSem P (binOp op t a b) K h) :
    wpSem P (do eqGuard op t x y a b; binOp op t a b) K h := by
  rw [hg]; exact hk
theorem nil_equal {t : TypeId} {a b : Value} {els : Prop} {k : Bool → Prop} (hh : nilOf P t a b k els) :
    els ∨ ((∀ op x y, eqGuard op t x y a b = pure ()) ∧ ∃ r, k r ∧ (∀ (K : Value → Hp → Prop) (h : Hp), K (.bool r) h → wpSem P (binOp .eql t a b) K h) ∧ (∀ (K : Value → Hp → Prop) (h : Hp), K (.bool (!r)) h → wpSem P (binOp .neq t a b) K h)) := by
  have eqs : ∀ {d : TypeDesc} (hd : P.underlying t = some d) (r : Bool) (he : ∀ (K : Bool → Hp → Prop) (h : Hp), K r h → wpSem P (Op.equalIn (9999 + 1) t a b) K h),
      (∀ (K : Value → Hp → Prop) (h : Hp), K (.bool r) h → wpSem P (Op.equal t a b >>= fun u => pure (.bool u)) K h) ∧ (∀ (K : Value → Hp → Prop) (h : Hp), K (.bool (!r)) h → wpSem P (Op.equal t a b >>= fun u => pure (.bool (!u))) K h) :=
    fun _ r he => ⟨fun K h hk => wpSem_bind _ _ _ _ (he _ _ hk), fun K h hk => wpSem_bind _ _ _ _ (he _ _ hk)⟩
  unfold nilOf at hh
  split at hh
  · rename_i e a' hd
    refine .inr ⟨fun op x y => by unfold eqGuard; cases op <;> rfl, _, hh, ?_⟩
    have := eqs hd a'.isNone (fun K h hk => by
      unfold Op.equalIn
      refine wpSem_bind _ _ _ _ (wp_underlying hd ?_)
      cases a' <;> exact hk)
    exact ⟨fun K h hk => this.1 K h hk, fun K h hk => this.2 K h hk⟩
  · rename_i e a' n1 n2 n3 n4 hd
    refine .inr ⟨fun op x y => by unfold eqGuard; cases op <;> rfl, _, hh, ?_⟩
    have := eqs hd a'.isNone (fun K h hk => by
      unfold Op.equalIn
      refine wpSem_bind _ _ _ _ (wp_underlying hd ?_)
      cases a' <;> exact hk)
    exact ⟨fun K h hk => this.1 K h hk, fun K h hk => this.2 K h hk⟩
  · rename_i e e2 a' hd
    refine .inr ⟨fun op x y => by unfold eqGuard; cases op <;> rfl, _, hh, ?_⟩
    have := eqs hd a'.isNone (fun K h hk => by
      unfold Op.equalIn
      refine wpSem_bind _ _ _ _ (wp_underlying hd ?_)
      cases a' <;> exact hk)
    exact ⟨fun K h hk => this.1 K h hk, fun K h hk => this.2 K h hk⟩
  · exact .inl hh
theorem binD0_sound {q : Bool} {op : BinOp} {t : TypeId} {x y : Operand} {a b : Value} {K : Value → Hp → Prop} {h : Hp} (hh : binD0 q P op t x y a b K h) :
    wpSem P (do eqGuard op t x y a b; binOp op t a b) K h := by
  unfold binD0 at hh
  split at hh
  · rename_i k m k' n
    split at hh
    case h_2 => exact hh.elim
    rename_i hk
    have hk : k = k' := by simpa using hk
    subst hk
    refine wp_eqGuard_ok (by rfl) ?_
    show wpSem P (if k ≠ k then _ else Op.intDiv .quo k m n) K h
    rw [if_neg (by simp)]
    unfold Op.intDiv
    rw [if_neg hh.1]
    exact hh.2
  · rename_i k m k' n
    split at hh
    case h_2 => exact hh.elim
    rename_i hk
    have hk : k = k' := by simpa using hk
    subst hk
    refine wp_eqGuard_ok (by rfl) ?_
    show wpSem P (if k ≠ k then _ else Op.intDiv .rem k m n) K h
    rw [if_neg (by simp)]
    unfold Op.intDiv
    rw [if_neg hh.1]
    exact hh.2
  · rename_i k m k' n
    refine wp_eqGuard_ok (by rfl) ?_
    show wpSem P (Op.shift .shl k m k' n) K h
    unfold Op.shift
    rw [if_neg (by omega)]
    exact hh.2
  · rename_i k m k' n
    refine wp_eqGuard_ok (by rfl) ?_
    show wpSem P (Op.shift .shr k m k' n) K h
    unfold Op.shift
    rw [if_neg (by omega)]
    exact hh.2
  · obtain ⟨r, hk, hg, he, _⟩ := eqAggD_sound hh
    exact hg _ _ _ _ _ _ (he _ _ hk)
  · obtain ⟨r, hk, hg, _, he⟩ := eqAggD_sound hh
    exact hg _ _ _ _ _ _ (he _ _ hk)
  · rename_i a b
    refine wp_eqGuard_ok (by rfl) ?_
    show wpSem P (Op.stringOp .add a b) K h
    have hM : IntKind.i64.max = 9223372036854775807 := rfl
    show wpSem P (if ((a.size + b.size : Nat) : Int) > IntKind.i64.max then _ else pure (.string (a ++ b))) K h
    rw [if_neg (by omega)]
    exact hh.2
  · split at hh
    · rcases nil_equal hh with hh | ⟨hg, r, hk, he, _⟩
      · exact genD_wp hh
      · exact wp_eqGuard_ok (hg _ _ _) (he _ _ hk)
    · rcases nil_equal hh with hh | ⟨hg, r, hk, _, he⟩
      · exact genD_wp hh
      · exact wp_eqGuard_ok (hg _ _ _) (he _ _ hk)
    · exact genD_wp hh
theorem binD_sound {q : Bool} {op : BinOp} {t : TypeId} {x y : Operand} {a b : Value} {K : Value → Hp → Prop} {h : Hp} (hh : binD q P op t x y a b K h) :
    wpSem P (do eqGuard op t x y a b; binOp op t a b) K h := by
  unfold binD at hh
  have key : (nilRight y b && isIface (P.underlying t)) = true → ∃ ms, y = .const .nilIface ∧ b = .nilIface ∧ P.underlying t = some (.interface ms) := by
    intro e
    rw [Bool.and_eq_true] at e
    obtain ⟨e1, e2⟩ := e
    unfold isIface at e2
    unfold nilRight at e1
    split at e2
    case h_2 => cases e2
    rename_i ms hd
    split at e1
    case h_2 => cases e1
    exact ⟨ms, rfl, rfl, hd⟩
  have guard : ∀ {op : BinOp}, b = .nilIface → y = .const .nilIface → (a = .nilIface ∨ ∃ t' v, a = .iface t' v) → eqGuard op t x y a b = pure () := by
    rintro op rfl rfl (rfl | ⟨t', v, rfl⟩)
    · unfold eqGuard; cases op <;> simp <;> rfl
    · unfold eqGuard; cases op <;> rfl
  split at hh
  · rename_i e
    obtain ⟨ms, hy, hb, hd⟩ := key e
    rcases hh with ⟨ha, hk⟩ | ⟨t', v, ha, hk⟩
    · refine wp_eqGuard_ok (guard hb hy (.inl ha)) ?_
      subst ha hb
      show wpSem P (Op.equalIn (9999 + 1) t .nilIface .nilIface >>= fun u => pure (.bool u)) K h
      refine wpSem_bind _ _ _ _ ?_
      unfold Op.equalIn
      refine wpSem_bind _ _ _ _ (wp_underlying hd ?_)
      exact hk
    · refine wp_eqGuard_ok (guard hb hy (.inr ⟨_, _, ha⟩)) ?_
      subst ha hb
      show wpSem P (Op.equalIn (9999 + 1) t (.iface t' v) .nilIface >>= fun u => pure (.bool u)) K h
      refine wpSem_bind _ _ _ _ ?_
      unfold Op.equalIn
      refine wpSem_bind _ _ _ _ (wp_underlying hd ?_)
      exact hk
  · rename_i e
    obtain ⟨ms, hy, hb, hd⟩ := key e
    rcases hh with ⟨ha, hk⟩ | ⟨t', v, ha, hk⟩
    · refine wp_eqGuard_ok (guard hb hy (.inl ha)) ?_
      subst ha hb
      show wpSem P (Op.equalIn (9999 + 1) t .nilIface .nilIface >>= fun u => pure (.bool (!u))) K h
      refine wpSem_bind _ _ _ _ ?_
      unfold Op.equalIn
      refine wpSem_bind _ _ _ _ (wp_underlying hd ?_)
      exact hk
    · refine wp_eqGuard_ok (guard hb hy (.inr ⟨_, _, ha⟩)) ?_
      subst ha hb
      show wpSem P (Op.equalIn (9999 + 1) t (.iface t' v) .nilIface >>= fun u => pure (.bool (!u))) K h
      refine wpSem_bind _ _ _ _ ?_
      unfold Op.equalIn
      refine wpSem_bind _ _ _ _ (wp_underlying hd ?_)
      exact hk
  · exact binD0_sound hh
/-! ### A slice made -/
def rowOf (z : Array Value) (n : Nat) : Array Value := (Array.range n).map (z[· % z.size]!)
def infoD (P : Program) (t : TypeId) (k : TypeInfo → Prop) : Prop := match P.info? t with | some i => k i | none => False
def makeSliceD (P : Program) (t : TypeId) (l c : Value) (K : Value → Hp → Prop) (h : Hp) : Prop :=
  match P.underlying t, l, c with
  | some (.slice e), .int _ l, .int _ c => infoD P e fun i => (match i.zero with
    | some z => 0 ≤ l ∧ l ≤ c ∧ c ≤ 140737488355328 ∧ (i.bytes : Int) * c ≤ 140737488355328 ∧
        ∀ b, h b = none → K (.slice (some ⟨b, 0, none⟩) l.toNat c.toNat) (h.put b (.cells (rowOf z.cells (c.toNat * i.size)) e))
    | none => False)
  | _, _, _ => False
theorem wp_zeroValue {t : TypeId} {i : TypeInfo} {z : Value} {K : Value → Hp → Prop} {h : Hp} (hi : P.info? t = some i) (hz : i.zero = some z) (hk : K z h) : wpSem P (zeroValue t) K h := by
  unfold zeroValue
  refine wpSem_bind _ _ _ _ (wp_typeInfo hi ?_)
  rw [hz]; exact hk
theorem wrap64_id (n : Int) (h0 : 0 ≤ n) (h1 : n ≤ 140737488355328) : IntKind.i64.wrap n = n := by
  rw [IntKind.wrap_i64]; omega
theorem makeSliceD_sound {t : TypeId} {l c : Value} {K : Value → Hp → Prop} {h : Hp} (hh : makeSliceD P t l c K h) : wpSem P (Instr.makeSlice t l c) K h := by
  unfold makeSliceD at hh
  split at hh
  case h_2 => exact hh.elim
  rename_i e k1 l k2 c hd
  unfold infoD at hh
  split at hh
  case h_2 => exact hh.elim
  rename_i i hi
  split at hh
  case h_2 => exact hh.elim
  rename_i z hz
  obtain ⟨h0, h1, h2, h3, hk⟩ := hh
  have hl := wrap64_id l h0 (by omega)
  have hc := wrap64_id c (by omega) h2
  unfold Instr.makeSlice
  refine wpSem_bind _ _ _ _ (wp_underlying hd ?_)
  simp only []
  refine wpSem_bind _ _ _ _ (show wpSem P (asInt (.int k1 l)) _ h from ?_)
  refine wpSem_bind _ _ _ _ (wp_pure (wp_pure ?_))
  refine wpSem_bind _ _ _ _ (show wpSem P (asInt (.int k2 c)) _ h from ?_)
  refine wpSem_bind _ _ _ _ (wp_pure (wp_pure ?_))
  refine wpSem_bind _ _ _ _ (wp_typeInfo hi ?_)
  simp only [hl, hc]
  have hb : ((c.toNat * i.bytes : Nat) : Int) = (i.bytes : Int) * c := by
    rw [Int.natCast_mul, Int.toNat_of_nonneg (by omega), Int.mul_comm]
  have t1 : (decide (c < 0) || decide ((i.bytes : Int) * c > 2 ^ 48)) = false := by simp; omega
  have t2 : (decide (l < 0)) = false := by simp; omega
  have t3 : (decide (l > c)) = false := by simp; omega
  rw [t1, t2, t3]
  simp only [Bool.or_false, Bool.false_eq_true, if_false]
  refine wpSem_bind _ _ _ _ (show wpSem P (askRoom (c.toNat * i.bytes)) _ h from ?_)
  unfold askRoom
  rw [if_neg (by unfold roomBytes; omega)]
  refine wp_pure ?_
  refine wpSem_bind _ _ _ _ (wp_sizeOf hi ?_)
  have fin : ∀ (zc : Array Value), (Array.range (c.toNat * i.size)).map (fun x => zc[x % zc.size]!) = rowOf z.cells (c.toNat * i.size) →
      wpSem P (newRow e ((Array.range (c.toNat * i.size)).map (fun x => zc[x % zc.size]!)) >>= fun a => pure (.slice (some a) l.toNat c.toNat)) K h := by
    intro zc he
    rw [he]
    refine wpSem_bind _ _ _ _ ?_
    unfold newRow
    refine wpSem_bind _ _ _ _ ?_
    unfold newObj
    simp only [wpSem, Obj.seen]
    exact hk
  by_cases hn : c.toNat * i.size = 0
  · simp only [hn, if_true]
    refine wpSem_bind _ _ _ _ (wp_pure ?_)
    have := fin #[] (by rw [hn]; simp [rowOf])
    rw [hn] at this
    exact this
  · simp only [hn, if_false]
    exact wpSem_bind _ _ _ _ (wp_zeroValue hi hz (fin z.cells rfl))
end Go.Den
end

