/- The plain law of policies: how long one waits; a policy as a number. No program in sight. -/
import Derived.Laws.BitsAllLaws
import Derived.Laws.BitsLemmas
namespace Go.Proofs.Ytlkhpfchcapgiaa
set_option linter.unusedVariables false
set_option linter.unusedSimpArgs false
open Go

/-- one step of a wait that grows -/
def stp (fa m w : Int) : Int := if w < 658812288346769700 ∧ (m = 0 ∨ w < m) then w * fa else w
def itr (fa m : Int) : Nat → Int → Int
  | 0, w => w
  | k + 1, w => stp fa m (itr fa m k w)
def capp (m w : Int) : Int := if 0 < m ∧ m < w then m else w
def waitV (f fa m n : Int) : Int := capp m (itr fa m (n - 1).toNat f)

theorem stp_ge (fa m w : Int) (h : 1 ≤ fa) (hw : 0 ≤ w) : w ≤ stp fa m w := by
  unfold stp; split
  · have h := Int.mul_le_mul_of_nonneg_left h hw; omega
  · omega
theorem stp_le (fa m w : Int) (h : 1 ≤ fa) (h7 : fa ≤ 7) (hw : 0 ≤ w) (hw2 : w ≤ 4611686018427387903) : stp fa m w ≤ 4611686018427387903 := by
  unfold stp; split
  · have h := Int.mul_le_mul_of_nonneg_left h7 hw; omega
  · omega
theorem itr_bd (fa m f : Int) (h : 1 ≤ fa) (h7 : fa ≤ 7) (hf : 0 ≤ f) (hf2 : f ≤ 63) : ∀ k, 0 ≤ itr fa m k f ∧ itr fa m k f ≤ 4611686018427387903
  | 0 => by simp only [itr]; omega
  | k + 1 => by
    have ih := itr_bd fa m f h h7 hf hf2 k
    have h1 := stp_ge fa m _ h ih.1
    have h2 := stp_le fa m _ h h7 ih.1 ih.2
    simp only [itr]; omega
theorem itr_stuck (fa m f : Int) (k : Nat) (hs : stp fa m (itr fa m k f) = itr fa m k f) : ∀ j, itr fa m (k + j) f = itr fa m k f
  | 0 => rfl
  | j + 1 => by
    have ih := itr_stuck fa m f k hs j
    show stp fa m (itr fa m (k + j) f) = _
    rw [ih, hs]
theorem itr_double (fa m f : Int) (h : 1 ≤ fa) (h7 : fa ≤ 7) (hf : 0 ≤ f) (hf2 : f ≤ 63) : ∀ k, stp fa m (itr fa m k f) = itr fa m k f ∨ (2 : Int) ^ k ≤ itr fa m k f
  | 0 => by
    by_cases h0 : f = 0
    · left; simp only [itr, h0, stp]; split <;> simp
    · right; simp only [itr]; simp; omega
  | k + 1 => by
    have hb := itr_bd fa m f h h7 hf hf2 k
    rcases itr_double fa m f h h7 hf hf2 k with hs | h2
    · left; have := itr_stuck fa m f k hs 1; rw [this, hs]
    · by_cases hs : stp fa m (itr fa m k f) = itr fa m k f
      · left; have := itr_stuck fa m f k hs 1; rw [this, hs]
      · right
        show _ ≤ stp fa m (itr fa m k f)
        generalize itr fa m k f = w at *
        unfold stp at *
        split at hs
        · rename_i hc
          rw [if_pos hc]
          have h2f : 2 ≤ fa := by
            by_cases h1 : fa = 1
            · subst h1; simp at hs
            · omega
          have h3 := Int.mul_le_mul_of_nonneg_left h2f hb.1
          rw [Int.pow_succ]; omega
        · exact absurd rfl hs
theorem itr_99 (fa m f : Int) (h : 1 ≤ fa) (h7 : fa ≤ 7) (hf : 0 ≤ f) (hf2 : f ≤ 63) (j : Nat) (hj : 99 ≤ j) : itr fa m j f = itr fa m 99 f := by
  have hb := itr_bd fa m f h h7 hf hf2 99
  have hs : stp fa m (itr fa m 99 f) = itr fa m 99 f := by
    rcases itr_double fa m f h h7 hf hf2 99 with hs | h2
    · exact hs
    · have e : (2 : Int) ^ 99 = 633825300114114700748351602688 := by decide
      omega
  have := itr_stuck fa m f 99 hs (j - 99)
  rwa [show 99 + (j - 99) = j by omega] at this
/-- it doesn't grow, or is long enough -/
theorem stp_stop (fa m w : Int) (h : fa = 1 ∨ w = 0 ∨ (0 < m ∧ m ≤ w) ∨ 658812288346769700 ≤ w) : stp fa m w = w := by
  unfold stp; split
  · rename_i hc
    rcases h with h | h | h | h
    · rw [h]; omega
    · rw [h]; omega
    · omega
    · omega
  · rfl
theorem stp_go (fa m w : Int) (h3 : ¬ (0 < m ∧ m ≤ w)) (hm : 0 ≤ m) (h4 : w < 658812288346769700) : stp fa m w = w * fa := by
  unfold stp; rw [if_pos ⟨h4, by omega⟩]
theorem capp_bd (m w : Int) (hm : 0 ≤ m) (hw : 0 ≤ w) (hw2 : w ≤ 4611686018427387903) : 0 ≤ capp m w ∧ capp m w ≤ 4611686018427387903 ∧ (0 < m → capp m w ≤ m) := by
  unfold capp; split <;> omega
theorem capp_mono (m a b : Int) (h : a ≤ b) : capp m a ≤ capp m b := by
  unfold capp; split <;> split <;> omega
theorem waitV_bd (f fa m n : Int) (h : 1 ≤ fa) (h7 : fa ≤ 7) (hf : 0 ≤ f) (hf2 : f ≤ 63) (hm : 0 ≤ m) : 0 ≤ waitV f fa m n ∧ waitV f fa m n ≤ 4611686018427387903 ∧ (0 < m → waitV f fa m n ≤ m) := by
  have hb := itr_bd fa m f h h7 hf hf2 (n - 1).toNat
  exact capp_bd m _ hm hb.1 hb.2
theorem waitV_succ (f fa m n : Int) (h : 1 ≤ fa) (h7 : fa ≤ 7) (hf : 0 ≤ f) (hf2 : f ≤ 63) (hn : 1 ≤ n) : waitV f fa m n ≤ waitV f fa m (n + 1) := by
  have hb := itr_bd fa m f h h7 hf hf2 (n - 1).toNat
  unfold waitV
  rw [show (n + 1 - 1).toNat = (n - 1).toNat + 1 by omega]
  exact capp_mono _ _ _ (stp_ge _ _ _ h hb.1)

/-! ### numbers -/
theorem ofInt_i64 (a : Nat) (ha : a < 9223372036854775808) : (BitVec.ofInt 64 (a : Int)).toNat = a := by
  rw [BitVec.ofInt_natCast, BitVec.toNat_ofNat]; exact Nat.mod_eq_of_lt (by omega)
theorem i64_and_nat (a b : Nat) (ha : a < 9223372036854775808) (hb : b < 9223372036854775808) : bits .and .i64 (a : Int) (b : Int) = ((a &&& b : Nat) : Int) := by
  have hx : a &&& b < 2 ^ 63 := Nat.and_lt_two_pow _ (by omega)
  show IntKind.i64.wrap ((BitVec.ofInt 64 (a : Int) &&& BitVec.ofInt 64 (b : Int)).toNat : Int) = _
  rw [BitVec.toNat_and, ofInt_i64 a ha, ofInt_i64 b hb, IntKind.wrap_i64]
  omega
theorem i64_or_nat (a b : Nat) (ha : a < 9223372036854775808) (hb : b < 9223372036854775808) : bits .or .i64 (a : Int) (b : Int) = ((a ||| b : Nat) : Int) := by
  have hx : a ||| b < 2 ^ 63 := Nat.or_lt_two_pow (by omega) (by omega)
  show IntKind.i64.wrap ((BitVec.ofInt 64 (a : Int) ||| BitVec.ofInt 64 (b : Int)).toNat : Int) = _
  rw [BitVec.toNat_or, ofInt_i64 a ha, ofInt_i64 b hb, IntKind.wrap_i64]
  omega
/-- the low k bits -/
theorem low_bits (n : Int) (k : Nat) (h0 : 0 ≤ n) (h1 : n < 9223372036854775808) (hk : k < 63) : bits .and .i64 n (2 ^ k - 1) = n % 2 ^ k := by
  obtain ⟨a, rfl⟩ := Int.eq_ofNat_of_zero_le h0
  have h2 : (1 : Nat) ≤ 2 ^ k := Nat.one_le_two_pow
  have h3 : (2 : Nat) ^ k ≤ 2 ^ 62 := Nat.pow_le_pow_right (by omega) (by omega)
  have e : ((2 : Int) ^ k - 1) = ((2 ^ k - 1 : Nat) : Int) := by rw [Int.natCast_sub h2]; simp
  rw [e, i64_and_nat a _ (by omega) (by omega), Nat.and_two_pow_sub_one_eq_mod]
  simp
/-- what is put above the low s bits is added -/
theorem put_bits (n x : Int) (s : Nat) (h0 : 0 ≤ n) (h1 : n < 2 ^ s) (hx : 0 ≤ x) (hs : s < 40) (hx2 : x < 65536) : bits .or .i64 n (x * 2 ^ s) = n + x * 2 ^ s := by
  obtain ⟨a, rfl⟩ := Int.eq_ofNat_of_zero_le h0
  obtain ⟨b, rfl⟩ := Int.eq_ofNat_of_zero_le hx
  have h3 : (2 : Nat) ^ s ≤ 2 ^ 39 := Nat.pow_le_pow_right (by omega) (by omega)
  have h4 : a < 2 ^ s := by have : ((a : Int)) < ((2 ^ s : Nat) : Int) := by simpa using h1
                            omega
  have h5 : b * 2 ^ s ≤ 65536 * 2 ^ 39 := Nat.mul_le_mul (by omega) h3
  have e : ((b : Int) * 2 ^ s) = ((b * 2 ^ s : Nat) : Int) := by simp
  rw [e, i64_or_nat a _ (by omega) (by omega), Nat.or_comm, nat_join s (b * 2 ^ s) a (by simp) h4]
  omega
end Go.Proofs.Ytlkhpfchcapgiaa
