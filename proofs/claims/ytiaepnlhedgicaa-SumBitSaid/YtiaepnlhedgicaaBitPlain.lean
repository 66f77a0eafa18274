/- PLAIN: one bit of a byte is turned. -/
import Derived.Test.YtiaepnlhedgicaaBurst
import Derived.Test.YtiaepnlhedgicaaRot
namespace Go.Proofs.Ytiaepnlhedgicaa
set_option linter.unusedVariables false
set_option linter.unusedSimpArgs false
open Go
theorem bitsOf_get : ∀ (l : List UInt8) (i : Nat), (bitsOf l).getD i false = (l.getD (i / 8) 0).toBitVec.getLsbD (i % 8) := by
  intro l
  induction l with
  | nil => intro i; simp [bitsOf]
  | cons x l ih =>
    intro i
    have e : bitsOf (x :: l) = bits8 x ++ bitsOf l := by simp [bitsOf]
    rw [e]
    rcases Nat.lt_or_ge i 8 with h | h
    · rw [List.getD_eq_getElem?_getD, List.getElem?_append_left (by rw [bits8_len]; exact h), ← List.getD_eq_getElem?_getD, bits8_get]
      rw [show i / 8 = 0 by omega, show i % 8 = i by omega]; rfl
    · rw [List.getD_eq_getElem?_getD, List.getElem?_append_right (by rw [bits8_len]; exact h), bits8_len, ← List.getD_eq_getElem?_getD, ih]
      rw [show i / 8 = (i - 8) / 8 + 1 by omega, show i % 8 = (i - 8) % 8 by omega, List.getD_cons_succ]
/-- a bit of a byte turned -/
def flip8 (x : UInt8) (r : Nat) : UInt8 := ⟨x.toBitVec ^^^ (1#8 <<< r)⟩
theorem flip8_far (x : UInt8) (r i : Nat) (h : i ≠ r) : (flip8 x r).toBitVec.getLsbD i = x.toBitVec.getLsbD i := by
  unfold flip8
  rw [BitVec.getLsbD_xor, BitVec.getLsbD_shiftLeft, BitVec.getLsbD_one]
  rcases Nat.lt_or_ge i r with h1 | h1
  · simp [h1]
  · have : ¬ i - r = 0 := by omega
    simp [this]
theorem flip_far (l : List UInt8) (i j : Nat) (h : j ≠ i) : (bitsOf (l.set (i / 8) (flip8 (l.getD (i / 8) 0) (i % 8)))).getD j false = (bitsOf l).getD j false := by
  rw [bitsOf_get, bitsOf_get, List.getD_eq_getElem?_getD, List.getElem?_set]
  by_cases e : i / 8 = j / 8
  · rw [if_pos e]
    by_cases hl : i / 8 < l.length
    · rw [if_pos hl, Option.getD_some, flip8_far _ _ _ (by omega), e]
    · rw [if_neg hl, List.getD_eq_getElem?_getD, List.getElem?_eq_none (by omega)]
  · rw [if_neg e, ← List.getD_eq_getElem?_getD]
theorem flip8_val (x : UInt8) (r : Nat) (hr : r < 8) : bits .xor .u8 (x.toNat : Int) (2 ^ r : Int) = ((flip8 x r).toNat : Int) := by
  have hp : (2 : Nat) ^ r < 256 := by
    have := Nat.pow_le_pow_right (n := 2) (by omega) (show r ≤ 7 by omega)
    omega
  have hx := x.toNat_lt
  have := u8_xor_nat x.toNat (2 ^ r) (by omega) hp
  have e : ((2 ^ r : Nat) : Int) = (2 : Int) ^ r := by simp
  rw [e] at this
  rw [this]
  unfold flip8
  show _ = (((x.toBitVec ^^^ (1#8 <<< r)).toNat : Nat) : Int)
  rw [BitVec.toNat_xor, BitVec.toNat_shiftLeft, Nat.shiftLeft_eq]
  show _ = ((x.toNat ^^^ (1 * 2 ^ r % 256) : Nat) : Int)
  rw [Nat.one_mul, Nat.mod_eq_of_lt hp]
end Go.Proofs.Ytiaepnlhedgicaa
