/- RotateLeft32 and four: what they compute. -/
import Derived.Test.YtkkhcpknldlpoaaRows
import Derived.Test.YtkkhcpknldlpoaaWords
import Derived.Test.YtkkhcpknldlpoaaSteps
import Derived.Test.YtkkhcpknldlpoaaRow
import Derived.Test.YtkkhcpknldlpoaaBytes
import Derived.WalkKit
import Derived.WalkSpells
import Derived.WalkLawsBesides
import Derived.ProofKit
import Derived.Outline
import Derived.BigQuiet
import Derived.RegionTactic
import Derived.StillTailTactics
import Derived.Lib.Hide
namespace Go.Proofs.Ytkkhcpknldlpoaa
open Go Go.RowKit
set_option maxRecDepth 4000
set_option linter.unusedVariables false
set_option linter.unusedSimpArgs false
theorem rot_count (k : Int) (h : 0 < k ∧ k < 32) : bits .and .u64 (18446744073709551616 - k) 31 = 32 - k := by
  rw [u64_and _ _ (by omega) (by omega) (by omega) (by omega), show (31 : Int).toNat = 31 from rfl, nat_mask5]
  omega
theorem rotl_any (x : W32) (k : Nat) (w : World) (h : 0 < k ∧ k < 32) :
    Calls Try.prog 93 #[.int .u32 (wv x), .int .i64 (-(k : Int))] w fun e w' => e = .returned (.int .u32 (wv (ror x k))) ∧ w' = w := by
  have h1 : IntKind.u64.wrap (-(k : Int)) = 18446744073709551616 - k := by rw [IntKind.wrap_u64]; omega
  have h2 := rot_count k (by omega)
  have h3 := wv_shl x (32 - k)
  rw [IntKind.wrap_u32'] at h3
  have h4 := wv_shr x k
  have h5 : (32 : Int) - (32 - (k : Int)) = k := by omega
  have h6 := wv_or (x <<< (32 - k)) (x >>> k)
  have h7 : x <<< (32 - k) ||| x >>> k = ror x k := by unfold ror; rw [BitVec.or_comm]
  rw [h7] at h6
  go_enter Try.func93, Try.ntmps93
  go_wp2_with fail
  go_ret
  exact ⟨rfl, rfl⟩
theorem index_str {W : World} (l : List UInt8) (j : Int) (n : Nat) (hj : j = n) (hn : n < l.length) :
    (Instr.index 9 (.string (strOf l)) (.int .i64 j)).run Try.prog W = .ok (.int .u8 (l.getD n 0).toNat) W := by
  subst hj
  have hs : (strOf l).size = l.length := rfl
  rw [run_index_string (h := Try.underlying9), dif_pos ⟨by omega, by rw [hs]; omega⟩, List.getD_eq_getElem?_getD, List.getElem?_eq_getElem hn]
  rfl
theorem rotl_lit (x : W32) (z : Int) (k : Nat) (hz : z = -(k : Int)) (h : 0 < k ∧ k < 32) (w : World) : Calls Try.prog 93 #[.int .u32 (wv x), .int .i64 z] w fun e w' => e = .returned (.int .u32 (wv (ror x k))) ∧ w' = w := by
  subst hz; exact rotl_any x k w h
/-- a text's bytes from a place on, as a word -/
def fourAt (l : List UInt8) (i : Nat) : W32 := fourB (l.getD i 0) (l.getD (i + 1) 0) (l.getD (i + 2) 0) (l.getD (i + 3) 0)
theorem u8_bd (x : UInt8) : 0 ≤ (x.toNat : Int) ∧ (x.toNat : Int) ≤ 255 := by have := x.toNat_lt; omega
theorem u8_shl (x : UInt8) (n : Nat) : (x.toNat : Int) * 2 ^ n % 4294967296 = wv (w8 x <<< n) := by
  rw [wv_u8, ← wv_shl, IntKind.wrap_u32']
theorem four_any (l : List UInt8) (z : Int) (i : Nat) (hz : z = i) (w : World) (h : i + 3 < l.length) (hl : l.length ≤ maxLen) :
    Calls Try.prog 94 #[.string (strOf l), .int .i64 z] w fun e w' => e = .returned (.int .u32 (wv (fourAt l i))) ∧ ∃ n, w' = w.drewN n := by
  subst hz
  have i0 := fun W => index_str (W := W) l i i rfl (by omega)
  have i1 := fun W => index_str (W := W) l ((i : Int) + 1) (i + 1) (by omega) (by omega)
  have i2 := fun W => index_str (W := W) l ((i : Int) + 2) (i + 2) (by omega) (by omega)
  have i3 := fun W => index_str (W := W) l ((i : Int) + 3) (i + 3) (by omega) (by omega)
  have hb : (i : Int) + 3 ≤ 9223372036854775807 := by unfold maxLen at hl; omega
  have hf : fourAt l i = fourB (l.getD i 0) (l.getD (i + 1) 0) (l.getD (i + 2) 0) (l.getD (i + 3) 0) := rfl
  generalize l.getD i 0 = a at *
  generalize l.getD (i + 1) 0 = b at *
  generalize l.getD (i + 2) 0 = c at *
  generalize l.getD (i + 3) 0 = d at *
  have ha := u8_bd a
  have hb := u8_bd b
  have hc := u8_bd c
  have hd := u8_bd d
  have ga : (a.toNat : Int) * (16777216 : Int) = wv (w8 a <<< 24) := by rw [← u8_shl]; omega
  have gb : (b.toNat : Int) * (65536 : Int) = wv (w8 b <<< 16) := by rw [← u8_shl]; omega
  have gc : (c.toNat : Int) * (256 : Int) = wv (w8 c <<< 8) := by rw [← u8_shl]; omega
  have o1 := wv_or (w8 a <<< 24) (w8 b <<< 16)
  have o2 := wv_or (w8 a <<< 24 ||| w8 b <<< 16) (w8 c <<< 8)
  have o3 := wv_or (w8 a <<< 24 ||| w8 b <<< 16 ||| w8 c <<< 8) (w8 d)
  rw [← wv_u8 d] at o3
  unfold fourB at hf
  rw [← hf] at o3
  generalize w8 a <<< 24 = A at *
  generalize w8 b <<< 16 = B at *
  generalize w8 c <<< 8 = C at *
  clear hf
  generalize fourAt l i = R at *
  go_enter Try.func94, Try.ntmps94
  go_wp2_with fail
  go_big_quiet (fail)
  go_wp2_with fail
  go_ret
  exact ⟨rfl, nq, rfl⟩
end Go.Proofs.Ytkkhcpknldlpoaa
