/- cron: what a text says, in plain Lean. -/
import Derived.Test.YtnbdcdeidhhgoaaDoorCCut
namespace Go.Proofs.YtnbdcdeidhhgoaaDoor
set_option maxRecDepth 4000
set_option linter.unusedVariables false
set_option linter.unusedSimpArgs false
/-- a step -/
def stepS (x : List UInt8) : Except Int Nat :=
  if (cutAt 47 x).2.2 = true then
    match num (cutAt 47 x).2.1 with
    | none => .error 8
    | some n => if n = 0 then .error 1 else .ok n
  else .ok 1
/-- from where, to where -/
def rangeS (lo hi : Nat) (st : Bool) (h : List UInt8) : Option (Nat × Nat) :=
  if h = [42] then some (lo, hi) else
    match num (cutAt 45 h).1 with
    | none => none
    | some n => if (cutAt 45 h).2.2 = true then (num (cutAt 45 h).2.1).map fun m => (n, m) else some (n, if st = true then hi else n)
structure Prt where
  f : Nat
  t : Nat
  s : Nat
def partS (lo hi : Nat) (x : List UInt8) : Except Int Prt :=
  match stepS x with
  | .error e => .error e
  | .ok s => match rangeS lo hi (cutAt 47 x).2.2 (cutAt 47 x).1 with
    | none => .error 8
    | some r => if r.1 < lo ∨ hi < r.2 ∨ r.2 < r.1 then .error 1 else .ok ⟨r.1, r.2, s⟩
def Prt.has (p : Prt) (n : Nat) : Bool := decide (p.f ≤ n ∧ n ≤ p.t ∧ (n - p.f) % p.s = 0)
theorem stepS_pos {x : List UInt8} {s : Nat} (h : stepS x = .ok s) : 1 ≤ s ∧ s ≤ 99 := by
  unfold stepS at h
  split at h
  · split at h
    · cases h
    · rename_i n hn
      have := num_le hn
      split at h
      · cases h
      · injection h with h; omega
  · injection h with h; omega
theorem partS_ok {lo hi : Nat} {x : List UInt8} {p : Prt} (h : partS lo hi x = .ok p) : lo ≤ p.f ∧ p.f ≤ p.t ∧ p.t ≤ hi ∧ 1 ≤ p.s ∧ p.s ≤ 99 := by
  unfold partS at h
  split at h
  · cases h
  · rename_i s hs
    have := stepS_pos hs
    split at h
    · cases h
    · split at h
      · cases h
      · injection h with h
        subst h
        simp only []
        omega
/-- a field: its parts -/
def partsS (lo hi : Nat) : List (List UInt8) → Except Int (List Prt)
  | [] => .ok []
  | x :: r => match partS lo hi x with
    | .error e => .error e
    | .ok p => match partsS lo hi r with
      | .error e => .error e
      | .ok q => .ok (p :: q)
theorem partsS_snoc {lo hi : Nat} {x : List UInt8} {post : List (List UInt8)} : ∀ {pre : List (List UInt8)} {q : List Prt}, partsS lo hi pre = .ok q →
    partsS lo hi (pre ++ x :: post) = match partS lo hi x with
      | .error e => .error e
      | .ok p => match partsS lo hi post with
        | .error e => .error e
        | .ok r => .ok (q ++ p :: r)
  | [], q, h => by
    simp [partsS] at h
    subst h
    rw [List.nil_append, partsS]
    cases partS lo hi x with
    | error e => rfl
    | ok p => cases partsS lo hi post <;> rfl
  | y :: pre, q, h => by
    rw [partsS] at h
    rw [List.cons_append, partsS]
    cases hy : partS lo hi y with
    | error e => rw [hy] at h; cases h
    | ok p =>
      rw [hy] at h
      simp only [] at h ⊢
      cases hp : partsS lo hi pre with
      | error e => rw [hp] at h; cases h
      | ok q' =>
        rw [hp] at h
        injection h with h
        rw [partsS_snoc hp, ← h]
        cases partS lo hi x with
        | error e => rfl
        | ok p => cases partsS lo hi post <;> rfl
def hasP (q : List Prt) (n : Nat) : Bool := q.any fun p => p.has n
def fieldS (lo hi : Nat) (x : List UInt8) : Except Int (List Prt) := partsS lo hi (splitL 44 x)
/-- the fields from the k-th on -/
def fieldsS : Nat → List (List UInt8) → Except Int (List (List Prt))
  | _, [] => .ok []
  | k, x :: r => match fieldS (lo k) (hi k) x with
    | .error e => .error e
    | .ok p => match fieldsS (k + 1) r with
      | .error e => .error e
      | .ok q => .ok (p :: q)
theorem fieldsS_snoc {x : List UInt8} {post : List (List UInt8)} : ∀ {k : Nat} {pre : List (List UInt8)} {q : List (List Prt)}, fieldsS k pre = .ok q →
    fieldsS k (pre ++ x :: post) = match fieldS (lo (k + pre.length)) (hi (k + pre.length)) x with
      | .error e => .error e
      | .ok p => match fieldsS (k + pre.length + 1) post with
        | .error e => .error e
        | .ok r => .ok (q ++ p :: r)
  | k, [], q, h => by
    simp [fieldsS] at h
    subst h
    rw [List.nil_append, fieldsS, List.length_nil, Nat.add_zero]
    cases fieldS (lo k) (hi k) x with
    | error e => rfl
    | ok p => cases fieldsS (k + 1) post <;> rfl
  | k, y :: pre, q, h => by
    rw [fieldsS] at h
    rw [List.cons_append, fieldsS]
    have hk : k + (y :: pre).length = k + 1 + pre.length := by simp; omega
    rw [hk]
    cases hy : fieldS (lo k) (hi k) y with
    | error e => rw [hy] at h; cases h
    | ok p =>
      rw [hy] at h
      simp only [] at h ⊢
      cases hp : fieldsS (k + 1) pre with
      | error e => rw [hp] at h; cases h
      | ok q' =>
        rw [hp] at h
        injection h with h
        rw [fieldsS_snoc hp, ← h]
        cases fieldS (lo (k + 1 + pre.length)) (hi (k + 1 + pre.length)) x with
        | error e => rfl
        | ok p => cases fieldsS (k + 1 + pre.length + 1) post <;> rfl
/-- what a text says: five fields, and which are a mere star -/
structure Sp where
  q : List (List Prt)
  b : List Bool
def parseS (x : List UInt8) : Except Int Sp :=
  if 128 < x.length then .error 2
  else if (splitL 32 x).length ≠ 5 then .error 40
  else match fieldsS 0 (splitL 32 x) with
    | .error e => .error e
    | .ok q => .ok ⟨q, (splitL 32 x).map fun y => y == [42]⟩
/-- does the k-th field hold the number? -/
def Sp.has (S : Sp) (k : Nat) (n : Int) : Bool := decide (0 ≤ n) && hasP (S.q.getD k []) n.toNat
def Sp.star (S : Sp) (k : Nat) : Bool := S.b.getD k false
def Sp.day (S : Sp) (m d k : Int) : Bool :=
  if S.has 3 m = true then
    if (S.star 2 || S.star 4) = true then S.has 2 d && S.has 4 k else S.has 2 d || S.has 4 k
  else false
def Sp.fits (S : Sp) (m d h n k : Int) : Bool := S.has 0 n && (S.has 1 h && S.day m d k)
/-- does it fit the minute t? -/
def Sp.at (S : Sp) (t : Int) : Bool := S.fits (civM (t / 1440)) (civD (t / 1440)) (t / 60 % 24) (t % 60) ((t / 1440 + 6) % 7)
theorem cutAt_le (c : UInt8) : ∀ l : List UInt8, (cutAt c l).1.length ≤ l.length ∧ (cutAt c l).2.1.length ≤ l.length
  | [] => by simp [cutAt]
  | a :: l => by
    have := cutAt_le c l
    rw [cutAt]
    split
    · simp
    · simp; omega
theorem splitL_le (c : UInt8) : ∀ (l : List UInt8) (x : List UInt8), x ∈ splitL c l → x.length ≤ l.length
  | [], x, h => by simp [splitL] at h; subst h; simp
  | a :: l, x, h => by
    rw [splitL] at h
    split at h
    · rcases List.mem_cons.1 h with rfl | h
      · simp
      · have := splitL_le c l x h; simp; omega
    · split at h
      · rename_i e; exact absurd e (splitL_ne c l)
      · rename_i y r e
        rcases List.mem_cons.1 h with rfl | h
        · have := splitL_le c l y (by rw [e]; simp); simp; omega
        · have := splitL_le c l x (by rw [e]; simp [h]); simp; omega
theorem splitL_len (c : UInt8) : ∀ (l : List UInt8), (splitL c l).length ≤ l.length + 1
  | [] => by simp [splitL]
  | a :: l => by
    have := splitL_len c l
    rw [splitL]
    split
    · simp; omega
    · split
      · simp
      · rename_i y r e; rw [e] at this; simp at this ⊢; omega
end Go.Proofs.YtnbdcdeidhhgoaaDoor
