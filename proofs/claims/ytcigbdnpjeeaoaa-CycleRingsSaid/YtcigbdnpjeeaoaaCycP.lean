/- Trial deletion as a machine of units, in plain Lean. -/
namespace Cyc

/-- What is come to from some nodes. -/
inductive Reach (E : Nat → List Nat) (S : Nat → Prop) : Nat → Prop
  | base {i : Nat} : S i → Reach E S i
  | step {i k : Nat} : Reach E S i → k ∈ E i → Reach E S k

theorem Reach.mono {E : Nat → List Nat} {S T : Nat → Prop} (h : ∀ i, S i → T i) {i : Nat} (hr : Reach E S i) : Reach E T i := by
  induction hr with
  | base hs => exact .base (h _ hs)
  | step _ hk ih => exact .step ih hk

theorem Reach.least {E : Nat → List Nat} {S T : Nat → Prop} (h : ∀ i, S i → T i) (hc : ∀ i k, T i → k ∈ E i → T k) {i : Nat} (hr : Reach E S i) : T i := by
  induction hr with
  | base hs => exact h _ hs
  | step _ hk ih => exact hc _ _ ih hk

/-- How many of a row are a node. -/
def times (l : List Nat) (k : Nat) : Nat := l.count k

/-- The edges from some nodes to a node. -/
def into (E : Nat → List Nat) (of : List Nat) (k : Nat) : Nat := (of.map fun i => times (E i) k).sum

structure St where
  counts : List Int
  colour : List Nat
  waits : List Nat
  reach : List Nat
  sweep : Nat
  at_ : Nat
  node : Option Nat
  edge : Nat
  found : List Nat

/-- The colours: 0 black, 1 grey, 2 white, 3 lives. -/
def col (s : St) (k : Nat) : Nat := s.colour.getD k 0

def next (E : Nat → List Nat) (s : St) : Option Nat × St :=
  match s.node with
  | some i =>
    match (E i)[s.edge]? with
    | some k => (some k, { s with edge := s.edge + 1 })
    | none =>
      match s.waits with
      | [] => (none, { s with node := none, edge := 0 })
      | w :: ws => (none, { s with node := some w, edge := 0, waits := ws })
  | none =>
    match s.waits with
    | [] => (none, { s with node := none, edge := 0 })
    | w :: ws => (none, { s with node := some w, edge := 0, waits := ws })

def mark (E : Nat → List Nat) (s : St) : St :=
  match next E s with
  | (some k, s) =>
    let s := { s with counts := s.counts.set k (s.counts.getD k 0 - 1) }
    if col s k = 0 then { s with colour := s.colour.set k 1, waits := s.waits ++ [k] } else s
  | (none, s) =>
    match s.node with
    | some i => { s with reach := s.reach ++ [i] }
    | none => { s with sweep := 1 }

def live (s : St) (k : Nat) : St := if col s k = 3 then s else { s with colour := s.colour.set k 3, waits := s.waits ++ [k] }

def scan (E : Nat → List Nat) (s : St) : St :=
  match next E s with
  | (some k, s) => live s k
  | (none, s) =>
    match s.node with
    | some _ => s
    | none =>
      match s.reach[s.at_]? with
      | some h => let s := if 0 < s.counts.getD h 0 then live s h else s; { s with at_ := s.at_ + 1 }
      | none => { s with sweep := 2, at_ := 0 }

def collect (s : St) : St :=
  if s.at_ = s.colour.length then { s with sweep := 3 }
  else
    let s := if col s s.at_ = 1 then { s with colour := s.colour.set s.at_ 2, found := s.found ++ [s.at_] } else s
    { s with at_ := s.at_ + 1 }

def unit (E : Nat → List Nat) (s : St) : St :=
  match s.sweep with
  | 0 => mark E s
  | 1 => scan E s
  | 2 => collect s
  | _ => s

def iter (E : Nat → List Nat) : Nat → St → St
  | 0, s => s
  | n + 1, s => iter E n (unit E s)

theorem iter_add (E : Nat → List Nat) (m n : Nat) (s : St) : iter E (m + n) s = iter E n (iter E m s) := by
  induction m generalizing s with
  | zero => simp [iter]
  | succ m ih => rw [Nat.succ_add]; exact ih _

theorem iter_over (E : Nat → List Nat) {s : St} (h : 3 ≤ s.sweep) (n : Nat) : iter E n s = s := by
  induction n with
  | zero => rfl
  | succ n ih =>
    have : unit E s = s := by unfold unit; split <;> first | rfl | omega
    rw [iter, this, ih]

end Cyc
