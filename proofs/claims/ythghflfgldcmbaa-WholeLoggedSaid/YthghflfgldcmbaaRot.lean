/- PLAIN: numbers of 32 bits as integers: what the program's and the document's reckonings give. -/
import Derived.Test.YthghflfgldcmbaaSha
import Derived.Laws.BitsAllLaws
namespace Go.Proofs.Ythghflfgldcmbaa
set_option maxRecDepth 4000
set_option linter.unusedVariables false
set_option linter.unusedSimpArgs false
open Go
/-- a word as the integer that the model holds -/
def wv (x : W32) : Int := (x.toNat : Int)
theorem wv_nonneg (x : W32) : 0 ≤ wv x := Int.natCast_nonneg _
theorem wv_lt (x : W32) : wv x < 4294967296 := by have := x.isLt; unfold wv; omega
theorem wv_bd (x : W32) : 0 ≤ wv x ∧ wv x ≤ 4294967295 := ⟨wv_nonneg x, by have := wv_lt x; omega⟩
theorem wv_inj {x y : W32} (h : wv x = wv y) : x = y := BitVec.eq_of_toNat_eq (by unfold wv at h; omega)
theorem wv_eq {x y : W32} : wv x = wv y ↔ x = y := ⟨wv_inj, fun h => h ▸ rfl⟩
theorem wv_wrap (n : Int) : IntKind.u32.wrap n = wv (BitVec.ofInt 32 n) := by
  rw [IntKind.wrap_u32', wv, BitVec.toNat_ofInt]
  have : (0 : Int) ≤ n % 4294967296 := Int.emod_nonneg _ (by omega)
  show _ = ((n % (2 ^ 32 : Nat)).toNat : Int)
  rw [Int.toNat_of_nonneg (by exact this)]
  rfl
theorem ofInt_wv (x : W32) : BitVec.ofInt 32 (wv x) = x := by
  apply BitVec.eq_of_toNat_eq
  rw [wv, ofInt_u32 _ x.isLt]
theorem wv_mod (n : Int) : n % 4294967296 = wv (BitVec.ofInt 32 n) := by rw [← IntKind.wrap_u32', wv_wrap]
theorem wv_add (x y : W32) : IntKind.u32.wrap (wv x + wv y) = wv (x + y) := by rw [wv_wrap, BitVec.ofInt_add, ofInt_wv, ofInt_wv]
theorem wv_add' (x y : W32) : (wv x + wv y) % 4294967296 = wv (x + y) := by rw [← IntKind.wrap_u32', wv_add]
theorem wv_xor (x y : W32) : bits .xor .u32 (wv x) (wv y) = wv (x ^^^ y) := by
  rw [wv, wv, u32_xor_nat _ _ x.isLt y.isLt]; rfl
theorem wv_and (x y : W32) : bits .and .u32 (wv x) (wv y) = wv (x &&& y) := by
  rw [wv, wv, u32_and_nat _ _ x.isLt y.isLt]; rfl
theorem wv_or (x y : W32) : bits .or .u32 (wv x) (wv y) = wv (x ||| y) := by
  rw [wv, wv, u32_or_nat _ _ x.isLt y.isLt]; rfl
theorem wv_not (x : W32) : bits .xor .u32 (4294967295) (wv x) = wv (~~~x) := by
  rw [show (4294967295 : Int) = wv (BitVec.allOnes 32) from rfl, wv_xor, BitVec.allOnes_xor]
theorem wv_shr (x : W32) (n : Nat) : wv x / 2 ^ n = wv (x >>> n) := by
  unfold wv
  rw [BitVec.toNat_ushiftRight, Nat.shiftRight_eq_div_pow]
  simp
theorem wv_shl (x : W32) (n : Nat) : IntKind.u32.wrap (wv x * 2 ^ n) = wv (x <<< n) := by
  rw [IntKind.wrap_u32', wv, wv, BitVec.toNat_shiftLeft, Nat.shiftLeft_eq]
  simp
theorem wv_lit (n : Nat) (h : n < 4294967296) : (n : Int) = wv (BitVec.ofNat 32 n) := by
  unfold wv; rw [BitVec.toNat_ofNat, Nat.mod_eq_of_lt h]
theorem wv_u8 (x : UInt8) : ((x.toNat : Nat) : Int) = wv (w8 x) := by
  unfold wv w8
  rw [BitVec.toNat_setWidth]
  have := x.toNat_lt
  show _ = ((x.toNat % 2 ^ 32 : Nat) : Int)
  rw [Nat.mod_eq_of_lt (by omega)]
theorem wv_byte (x : W32) : wv x % 256 = ((⟨x.setWidth 8⟩ : UInt8).toNat : Int) := by
  show _ = (((x.setWidth 8).toNat : Nat) : Int)
  rw [BitVec.toNat_setWidth]; rfl
/-- turned to the right by one -/
def ror1 (x : W32) : W32 := ror x 1
theorem ror_bit (x : W32) (n i : Nat) (hn : 0 < n) (hn2 : n < 32) (hi : i < 32) : (ror x n).getLsbD i = if i + n < 32 then x.getLsbD (i + n) else x.getLsbD (i + n - 32) := by
  unfold ror
  rw [BitVec.getLsbD_or, BitVec.getLsbD_ushiftRight, BitVec.getLsbD_shiftLeft, Nat.add_comm n i]
  by_cases h : i + n < 32
  · rw [if_pos h]
    have : i < 32 - n := by omega
    simp [this]
  · rw [if_neg h, BitVec.getLsbD_of_ge x (i + n) (by omega)]
    have : ¬ i < 32 - n := by omega
    have e : i - (32 - n) = i + n - 32 := by omega
    simp [this, hi, e]
def rorN : Nat → W32 → W32
  | 0, x => x
  | n + 1, x => ror1 (rorN n x)
theorem rorN_is (x : W32) (n : Nat) (hn : 0 < n) (hn2 : n < 32) : rorN n x = ror x n := by
  induction n with
  | zero => omega
  | succ n ih =>
    rcases Nat.eq_zero_or_pos n with rfl | h
    · rfl
    · rw [rorN, ih h (by omega)]
      apply BitVec.eq_of_getLsbD_eq
      intro i hi
      rw [ror1, ror_bit (ror x n) 1 i (by omega) (by omega) hi, ror_bit x (n + 1) i (by omega) hn2 hi]
      by_cases h1 : i + 1 < 32
      · rw [if_pos h1, ror_bit x n (i + 1) h (by omega) h1, show i + 1 + n = i + (n + 1) by omega]
      · have : i = 31 := by omega
        subst this
        rw [if_neg h1, ror_bit x n (31 + 1 - 32) h (by omega) (by omega), if_pos (show 31 + 1 - 32 + n < 32 by omega), if_neg (show ¬ 31 + (n + 1) < 32 by omega)]
        congr 1
        omega
theorem ror1_val (x : W32) : wv x / (2 : Int) + wv x % (2 : Int) * (2147483648 : Int) = wv (ror1 x) := by
  unfold wv ror1 ror
  rw [BitVec.toNat_or, BitVec.toNat_ushiftRight, BitVec.toNat_shiftLeft, Nat.shiftRight_eq_div_pow, Nat.shiftLeft_eq]
  have hx := x.isLt
  have e : x.toNat * 2 ^ (32 - 1) % 2 ^ 32 = x.toNat % 2 * 2147483648 := by
    rw [show (2 : Nat) ^ (32 - 1) = 2147483648 from rfl, show (2 : Nat) ^ 32 = 4294967296 from rfl]
    omega
  have h31 : (2 : Nat) ^ 31 = 2147483648 := rfl
  have h1 : (2 : Nat) ^ 1 = 2 := rfl
  have hj : x.toNat % 2 * 2147483648 % 2 ^ 31 = 0 := by rw [h31]; exact Nat.mul_mod_left _ _
  have hk : x.toNat / 2 ^ 1 < 2 ^ 31 := by rw [h31, h1]; omega
  rw [e, Nat.or_comm, nat_join 31 _ _ hj hk, h1]
  omega
/-- without its last bits -/
def lessN : Nat → W32 → W32
  | 0, x => x
  | n + 1, x => lessN n x >>> 1
theorem lessN_is (x : W32) (n : Nat) : lessN n x = x >>> n := by
  induction n with
  | zero => simp [lessN]
  | succ n ih => rw [lessN, ih, BitVec.shiftRight_add]
theorem less1_val (x : W32) : wv x / (2 : Int) = wv (x >>> 1) := by have := wv_shr x 1; simpa using this
theorem not_val (x : W32) : (4294967295 : Int) - wv x = wv (~~~x) := by
  unfold wv
  rw [BitVec.toNat_not]
  have := x.isLt
  omega
end Go.Proofs.Ythghflfgldcmbaa
