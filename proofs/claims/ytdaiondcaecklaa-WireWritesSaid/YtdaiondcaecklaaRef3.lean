/- The walks of the reference's Signed and Low. -/
import Derived.Test.YtdaiondcaecklaaRef2
namespace Go.Proofs.Ytdaiondcaecklaa
set_option linter.unusedVariables false
set_option linter.unusedSimpArgs false
open Go Go.RowKit
theorem signed_any (n : Nat) (w : World) (hn : n < 18446744073709551616) : Calls Try.prog 28 #[.int .u64 n] w fun e w' => e = .returned (.int .i64 (zagI n)) ∧ w = w' := by
  rcases (show n % 2 = 0 ∨ n % 2 = 1 by omega) with h | h
  · have hz : zagI n = ((n / 2 : Nat) : Int) := if_pos h
    have HZ := Lib.hid hz
    have h2 : ((n : Int) % 2 == 0) = true := by simp; omega
    clear hz h
    go_enter Try.func28, Try.ntmps28
    go_wp2_with fail
    go_ret
    exact ⟨ret_int (by rw [HZ.out]; rfl), rfl⟩
  · have hz : zagI n = -((n / 2 : Nat) : Int) - 1 := if_neg (by omega)
    have HZ := Lib.hid hz
    have h2 : ((n : Int) % 2 == 0) = false := by simp; omega
    clear hz h
    go_enter Try.func28, Try.ntmps28
    go_wp2_with fail
    go_ret
    exact ⟨ret_int (by rw [HZ.out]; rfl), rfl⟩
def lowL : List UInt8 → Nat
  | [] => 0
  | b :: l => b.toNat + 256 * lowL l
theorem lowL_lt : ∀ l : List UInt8, lowL l < 256 ^ l.length
  | [] => by simp [lowL]
  | b :: l => by
    have h1 := lowL_lt l
    have h2 := UInt8.toNat_lt b
    simp only [lowL, List.length_cons, Nat.pow_succ]; omega
theorem lowL_at (l : List UInt8) (i : Nat) (hi : i < l.length) : lowL (l.drop i) = (l.getD i 0).toNat + 256 * lowL (l.drop (i + 1)) := by
  rw [drop_cons l 0 i hi]; rfl
theorem low_any (w : World) (l : List UInt8) (hl : l.length ≤ 4) : Calls Try.prog 30 #[.string (strOf l)] w fun e w' => e = .returned (.int .u32 (lowL l : Nat)) ∧ w = w' := by
  have hsz := strOf_size l
  have hsz2 : (strOf l).size ≤ 4 := by omega
  have HS := Lib.hid hsz
  clear hsz
  go_enter Try.func30, Try.ntmps30
  go_wp2_with fail
  go_loop [3, 4] (fun n i => ∃ (j : Nat) (i' : Int), j ≤ l.length ∧ i' = (j : Int) - 1 ∧ i = .int .i64 i' ∧ n = .int .u32 (lowL (l.drop j) : Nat)) (fun _ i => (intOf i + 1).toNat)
  case atStart => exact ⟨l.length, (l.length : Int) - 1, by omega, rfl, by rw [HS.out], by simp [lowL]⟩
  case round =>
    obtain ⟨j, i', hj, hi', rfl, rfl⟩ := hrel
    cases j with
    | zero =>
      have hi1 : i' = -1 := by omega
      subst hi1
      rw [List.drop_zero]
      clear hi'
      go_wp2_with fail
      go_ret
      exact ⟨rfl, rfl⟩
    | succ j =>
      have hi1 : i' = (j : Int) := by omega
      subst hi1
      have hva := lowL_at l j (by omega)
      have hlt := lowL_lt (l.drop (j + 1))
      have hb3 : lowL (l.drop (j + 1)) < 16777216 := by
        have h1 : (l.drop (j + 1)).length ≤ 3 := by simp; omega
        have h2 : 256 ^ (l.drop (j + 1)).length ≤ 256 ^ 3 := Nat.pow_le_pow_right (by omega) h1
        omega
      have hix : ∀ h, ((strOf l)[j]'h).toNat = (l.getD j 0).toNat := by
        intro h
        rw [List.getD_eq_getElem?_getD, List.getElem?_eq_getElem (by omega)]; rfl
      have hjs : (j : Int) < (strOf l).size := by rw [HS.out]; omega
      have hx := UInt8.toNat_lt (l.getD j 0)
      have HV := Lib.hid hva
      clear hva hlt hi'
      generalize (l.getD j 0).toNat = x at *
      generalize lowL (l.drop (j + 1)) = v at *
      go_wp2_with fail
      exact ⟨⟨j, (j : Int) - 1, by omega, rfl, rfl, by rw [HV.out]; congr 1; omega⟩, by (simp [intOf]; try omega)⟩
end Go.Proofs.Ytdaiondcaecklaa
