/- RotateLeft32 and four: what they compute. -/
import Derived.Test.YthghflfgldcmbaaRows
import Derived.Test.YthghflfgldcmbaaWords
import Derived.Test.YthghflfgldcmbaaSteps
import Derived.Test.YthghflfgldcmbaaRow
import Derived.Test.YthghflfgldcmbaaBytes
import Derived.WalkKit
import Derived.WalkSpells
import Derived.WalkLawsBesides
import Derived.ProofKit
import Derived.Outline
import Derived.BigQuiet
import Derived.RegionTactic
import Derived.StillTailTactics
import Derived.Lib.Hide
namespace Go.Proofs.Ythghflfgldcmbaa
open Go Go.RowKit
set_option maxRecDepth 4000
set_option linter.unusedVariables false
set_option linter.unusedSimpArgs false
theorem rot_count (k : Int) (h : 0 < k ∧ k < 32) : bits .and .u64 (18446744073709551616 - k) 31 = 32 - k := by
  rw [u64_and _ _ (by omega) (by omega) (by omega) (by omega), show (31 : Int).toNat = 31 from rfl, nat_mask5]
  omega
theorem index_str {W : World} (l : List UInt8) (j : Int) (n : Nat) (hj : j = n) (hn : n < l.length) :
    (Instr.index 9 (.string (strOf l)) (.int .i64 j)).run Try.prog W = .ok (.int .u8 (l.getD n 0).toNat) W := by
  subst hj
  have hs : (strOf l).size = l.length := rfl
  rw [run_index_string (h := Try.underlying9), dif_pos ⟨by omega, by rw [hs]; omega⟩, List.getD_eq_getElem?_getD, List.getElem?_eq_getElem hn]
  rfl
def fourAt (l : List UInt8) (i : Nat) : W32 := fourB (l.getD i 0) (l.getD (i + 1) 0) (l.getD (i + 2) 0) (l.getD (i + 3) 0)
theorem u8_bd (x : UInt8) : 0 ≤ (x.toNat : Int) ∧ (x.toNat : Int) ≤ 255 := by have := x.toNat_lt; omega
theorem u8_shl (x : UInt8) (n : Nat) : (x.toNat : Int) * 2 ^ n % 4294967296 = wv (w8 x <<< n) := by
  rw [wv_u8, ← wv_shl, IntKind.wrap_u32']
end Go.Proofs.Ythghflfgldcmbaa
