/- PLAIN: a chain of sums; the document's SHA-256, step by step. -/
import Derived.Test.YtkkhcpknldlpoaaWords
namespace Go.Proofs.Ytkkhcpknldlpoaa
set_option maxRecDepth 4000
set_option linter.unusedVariables false
set_option linter.unusedSimpArgs false
def chain (p : List UInt8) : List (List UInt8) → List (List UInt8)
  | [] => []
  | b :: bs => sha (p ++ b) :: chain (sha (p ++ b)) bs
def chainEnd (p : List UInt8) (l : List (List UInt8)) : List UInt8 := l.foldl (fun p b => sha (p ++ b)) p
theorem chainEnd_snoc (p : List UInt8) (l : List (List UInt8)) (x : List UInt8) : chainEnd p (l ++ [x]) = sha (chainEnd p l ++ x) := by
  unfold chainEnd; rw [List.foldl_append]; rfl
theorem chain_snoc (x : List UInt8) : ∀ (l : List (List UInt8)) (p : List UInt8), chain p (l ++ [x]) = chain p l ++ [sha (chainEnd p l ++ x)] := by
  intro l
  induction l with
  | nil => intro p; rfl
  | cons b l ih =>
    intro p
    show sha (p ++ b) :: chain _ (l ++ [x]) = sha (p ++ b) :: (chain _ l ++ [sha (chainEnd (sha (p ++ b)) l ++ x)])
    rw [ih]
theorem chain_len : ∀ (l : List (List UInt8)) (p : List UInt8), (chain p l).length = l.length := by
  intro l
  induction l with
  | nil => intro p; rfl
  | cons b l ih => intro p; show (chain _ l).length + 1 = l.length + 1; rw [ih]
theorem chain_mem : ∀ (l : List (List UInt8)) (p : List UInt8), ∀ x ∈ chain p l, x.length = 32 := by
  intro l
  induction l with
  | nil => intro p x hx; simp [chain] at hx
  | cons b l ih =>
    intro p x hx
    rcases List.mem_cons.1 hx with rfl | h
    · exact sha_len _
    · exact ih _ x h
theorem chainEnd_len (l : List (List UInt8)) (p : List UInt8) (hp : p.length = 32) : (chainEnd p l).length = 32 := by
  rcases List.eq_nil_or_concat l with rfl | ⟨l', x, rfl⟩
  · exact hp
  · rw [List.concat_eq_append, chainEnd_snoc, sha_len]
theorem chain_get (l : List (List UInt8)) (p : List UInt8) (i : Nat) (hi : i < l.length) : (chain p l).getD i [] = sha (chainEnd p (l.take i) ++ l[i]) := by
  have h1 : l = l.take i ++ [l[i]] ++ l.drop (i + 1) := by simp
  have h2 : ∀ (a b : List (List UInt8)) (p : List UInt8), ∃ c, chain p (a ++ b) = chain p a ++ c := by
    intro a
    induction a with
    | nil => exact fun b p => ⟨_, rfl⟩
    | cons x a ih => intro b p; obtain ⟨c, hc⟩ := ih b (sha (p ++ x)); exact ⟨c, by show _ :: chain _ (a ++ b) = _; rw [hc]; rfl⟩
  obtain ⟨c, hc⟩ := h2 (l.take i ++ [l[i]]) (l.drop (i + 1)) p
  rw [← h1] at hc
  rw [hc, chain_snoc, List.getD_eq_getElem?_getD, List.append_assoc, List.getElem?_append_right (by rw [chain_len, List.length_take]; omega), chain_len]
  have : i - (l.take i).length = 0 := by rw [List.length_take]; omega
  rw [this]; rfl
theorem chainEnd_get (l : List (List UInt8)) (p : List UInt8) (i : Nat) (hi : i < l.length) : chainEnd p (l.take (i + 1)) = (chain p l).getD i [] := by
  rw [List.take_succ_eq_append_getElem hi, chainEnd_snoc, chain_get l p i hi]
/-- the last k bytes of the length, as the document puts them together -/
def tailR (n k : Nat) : List UInt8 := (List.range k).reverse.map fun i => UInt8.ofNat (n / 256 ^ i)
theorem tailR_succ (n k : Nat) : tailR n (k + 1) = UInt8.ofNat (n / 256 ^ k) :: tailR n k := by
  unfold tailR; rw [List.range_succ, List.reverse_append]; rfl
theorem tailR_len8 (n : Nat) (h : n * 8 < 18446744073709551616) : tailR (n * 8) 8 = len8 n := by
  unfold tailR len8
  rw [Nat.mod_eq_of_lt h]
  rfl
/-- the text with its padding, as the document writes it -/
def padded (l : List UInt8) : List UInt8 := l ++ pad l.length
theorem padded_len (l : List UInt8) : (padded l).length % 64 = 0 := by unfold padded; rw [List.length_append]; exact pad_len _
/-- the first n blocks -/
def blocks (s : St) (l : List UInt8) : Nat → St
  | 0 => s
  | n + 1 => (blocks s l n).block ((l.drop (64 * n)).take 64)
theorem blocks_eat (l : List UInt8) (s : St) : ∀ n, 64 * n ≤ l.length → eat s l = eat (blocks s l n) (l.drop (64 * n)) := by
  intro n
  induction n with
  | zero => intro _; rfl
  | succ n ih =>
    intro h
    rw [ih (by omega), eat_big (by simp; omega), List.drop_drop]
    rfl
theorem blocks_all (l : List UInt8) (s : St) (n : Nat) (h : 64 * n = l.length) : (eat s l).1 = blocks s l n := by
  rw [blocks_eat l s n (by omega), eat_small (by simp; omega)]
theorem sha_blocks (l : List UInt8) (n : Nat) (h : 64 * n = (padded l).length) : sha l = (blocks St.begin (padded l) n).bytes := by
  unfold sha
  rw [show l ++ pad l.length = padded l from rfl, blocks_all _ _ n h]
end Go.Proofs.Ytkkhcpknldlpoaa
