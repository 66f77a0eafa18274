/- cron: the small functions of numbers. -/
import Derived.Test.YtnbdcdeidhhgoaaDoorCDate
import Derived.Test.YtnbdcdeidhhgoaaDoorBits
import Derived.Test.YtnbdcdeidhhgoaaDoorSteps
import Derived.Test.YtnbdcdeidhhgoaaDoorStepsZ
import Derived.Test.YtnbdcdeidhhgoaaDoorRows
import Derived.Test.YtnbdcdeidhhgoaaDoorRow
import Derived.Test.YtnbdcdeidhhgoaaDoorBytes
import Derived.LoopTactic
import Derived.OwnWalk
import Derived.Lib.Hide
import Derived.Outline
import Derived.WalkSpells
import Derived.WalkLawsBesides
import Derived.Deep.LoopGhost
import Derived.Deep.DeepCutAuto
import Derived.Deep.CutBlock
import Derived.Laws.Tables
namespace Go.Proofs.YtnbdcdeidhhgoaaDoor
set_option maxRecDepth 4000
set_option linter.unusedVariables false
set_option linter.unusedSimpArgs false
open Go Go.RowKit
theorem leap_any (w : World) (y : Int) (h0 : 0 ≤ y) (h1 : y ≤ 1000000) :
    Calls Tryd.prog 34 #[.int .i64 y] w fun e w' => e = .returned (.bool (leapB y)) ∧ w = w' := by
  have h4 : 0 ≤ y % 4 := by omega
  by_cases g4 : y % 4 = 0
  · by_cases g100 : y % 100 = 0
    · by_cases g400 : y % 400 = 0
      · have e : leapB y = true := by simp [leapB, g4, g100, g400]
        have E := Lib.hid e
        clear e
        go_enter Tryd.func34, Tryd.ntmps34
        go_wp2
        go_ret
        rw [E.out]; exact ⟨rfl, rfl⟩
      · have e : leapB y = false := by simp [leapB, g4, g100, g400]
        have E := Lib.hid e
        have hb : (y % 400 == 0) = false := by simpa using g400
        clear e
        go_enter Tryd.func34, Tryd.ntmps34
        go_wp2
        go_ret
        rw [E.out]; exact ⟨rfl, rfl⟩
    · have e : leapB y = true := by simp [leapB, g4, g100]
      have E := Lib.hid e
      have hb : (y % 100 != 0) = true := by simpa using g100
      clear e
      go_enter Tryd.func34, Tryd.ntmps34
      go_wp2
      go_ret
      rw [E.out]; exact ⟨rfl, rfl⟩
  · have e : leapB y = false := by simp [leapB, g4]
    have E := Lib.hid e
    have hb : (y % 4 == 0) = false := by simpa using g4
    clear e
    go_enter Tryd.func34, Tryd.ntmps34
    go_wp2
    go_ret
    rw [E.out]; exact ⟨rfl, rfl⟩
theorem days_any (w : World) (y m : Int) (h0 : 0 ≤ y) (h1 : y ≤ 1000000) :
    Calls Tryd.prog 35 #[.int .i64 y, .int .i64 m] w fun e w' => e = .returned (.int .i64 (dm y m)) ∧ w = w' := by
  rcases (show m = 2 ∨ m = 4 ∨ m = 6 ∨ m = 9 ∨ m = 11 ∨ (m ≠ 2 ∧ m ≠ 4 ∧ m ≠ 6 ∧ m ≠ 9 ∧ m ≠ 11) by omega) with rfl | rfl | rfl | rfl | rfl | ⟨a, b, c, d, f⟩
  · have e : dm y 2 = if leapB y = true then 29 else 28 := by unfold dm lp; rw [if_pos rfl]; split <;> simp_all
    have E := Lib.hid e
    clear e
    have hl := leap_any w y h0 h1
    cases hb : leapB y with
    | true =>
      rw [hb] at hl
      have HB := Lib.hid hb
      clear hb
      go_enter Tryd.func35, Tryd.ntmps35
      go_wp2_with fail
      refine hl.mono ?_
      rintro e w' ⟨rfl, rfl⟩
      go_wp2
      go_ret
      rw [E.out, if_pos HB.out]; exact ⟨rfl, rfl⟩
    | false =>
      rw [hb] at hl
      have HB := Lib.hid hb
      clear hb
      go_enter Tryd.func35, Tryd.ntmps35
      go_wp2_with fail
      refine hl.mono ?_
      rintro e w' ⟨rfl, rfl⟩
      go_wp2
      go_ret
      rw [E.out, if_neg (by rw [HB.out]; decide)]; exact ⟨rfl, rfl⟩
  all_goals try
    (go_enter Tryd.func35, Tryd.ntmps35
     go_wp2
     go_ret
     exact ⟨rfl, rfl⟩)
  have e : dm y m = 31 := by simp [dm, a, b, c, d, f]
  have E := Lib.hid e
  have e2 : (m == 2) = false := by simpa using a
  have e4 : (m == 4) = false := by simpa using b
  have e6 : (m == 6) = false := by simpa using c
  have e9 : (m == 9) = false := by simpa using d
  have e11 : (m == 11) = false := by simpa using f
  clear a b c d f e
  go_enter Tryd.func35, Tryd.ntmps35
  go_wp2
  go_ret
  rw [E.out]; exact ⟨rfl, rfl⟩
/-- is a number in a set? -/
def setB (s : Nat) (n : Int) : Bool := decide (0 ≤ n) && (decide (n < 64) && s.testBit n.toNat)
theorem u64_and_one (x : Nat) (h : x < 18446744073709551616) : bits .and .u64 (x : Int) 1 = ((x % 2 : Nat) : Int) := by
  have := and_nat_u64 x 1 h (by omega)
  rw [Nat.and_one_is_mod] at this
  exact this
theorem has_val (s k : Nat) (hs : s < 18446744073709551616) (h1 : (k : Int) < 64) : (bits .and .u64 ((s : Int) / 2 ^ k) 1 == 1) = setB s k := by
  have e1 : (s : Int) / 2 ^ k = ((s / 2 ^ k : Nat) : Int) := by simp
  have h2 : s / 2 ^ k < 18446744073709551616 := Nat.lt_of_le_of_lt (Nat.div_le_self _ _) hs
  rw [e1, u64_and_one _ h2]
  unfold setB
  have e2 : decide (0 ≤ (k : Int)) = true := by simp
  rw [e2, decide_eq_true h1, Bool.true_and, Bool.true_and, Int.toNat_natCast, Nat.testBit_eq_decide_div_mod_eq]
  rw [Bool.eq_iff_iff]
  simp
  omega
theorem has_any (w : World) (s : Nat) (n : Int) (hs : s < 18446744073709551616) :
    Calls Tryd.prog 24 #[.int .u64 s, .int .i64 n] w fun e w' => e = .returned (.bool (setB s n)) ∧ w = w' := by
  by_cases h0 : 0 ≤ n
  · by_cases h1 : n < 64
    · obtain ⟨k, rfl⟩ : ∃ k : Nat, n = k := ⟨n.toNat, by omega⟩
      go_enter Tryd.func24, Tryd.ntmps24
      go_wp2_with fail
      go_ret
      refine ⟨?_, rfl⟩
      rw [has_val s k hs h1]; rfl
    · have hd : decide (n < 64) = false := by simpa using h1
      have e : setB s n = false := by simp [setB, h1]
      have E := Lib.hid e
      clear e
      go_enter Tryd.func24, Tryd.ntmps24
      go_wp2
      go_ret
      rw [E.out]; exact ⟨rfl, rfl⟩
  · have hd : decide (0 ≤ n) = false := by simpa using h0
    have e : setB s n = false := by simp [setB, h0]
    have E := Lib.hid e
    clear e
    go_enter Tryd.func24, Tryd.ntmps24
    go_wp2
    go_ret
    rw [E.out]; exact ⟨rfl, rfl⟩
end Go.Proofs.YtnbdcdeidhhgoaaDoor
