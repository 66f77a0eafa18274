/- cron: the document's numbers, least, most; cuts. -/
import Derived.Test.YtmgpkadgalgnnaaDoorCText
import Derived.Deep.QuietTactic
import Derived.BigQuiet
namespace Go.Proofs.YtmgpkadgalgnnaaDoor
set_option maxRecDepth 4000
set_option linter.unusedVariables false
set_option linter.unusedSimpArgs false
open Go Go.RowKit
def numR : Option Nat → Int
  | some n => n
  | none => -1
set_option maxHeartbeats 1000000 in
theorem refnum_any (w : World) (s : ByteArray) (hs : s.size ≤ 1000) :
    Calls Tryd.prog 35 #[.string s] w fun e w' => e = .returned (.int .i64 (numR (num (tl s)))) ∧ Ext w w' := by
  rcases (show s.size = 0 ∨ s.size = 1 ∨ s.size = 2 ∨ 2 < s.size by omega) with h | h | h | h
  · have he2 : num (tl s) = none := by rw [tl_nil h]; rfl
    rw [he2]
    clear he2
    go_enter Tryd.func35, Tryd.ntmps35
    go_wp2
    go_ret
    exact ⟨rfl, Ext.refl _⟩
  · have e := tl_one h
    rw [e]
    clear e
    have hb : (s[0].toNat : Int) < 256 := by have := s[0].toNat_lt; omega
    rcases (show (s[0].toNat : Int) < 48 ∨ (48 ≤ (s[0].toNat : Int) ∧ (s[0].toNat : Int) ≤ 57) ∨ 57 < (s[0].toNat : Int) by omega) with h3 | ⟨h3, h4⟩ | h3
    · have e := num_bad1 (isDig_lo h3)
      rw [e]
      clear e
      have hd : decide (48 ≤ (s[0].toNat : Int)) = false := by simpa using h3
      go_enter Tryd.func35, Tryd.ntmps35
      go_wp2
      go_ret
      exact ⟨rfl, Ext.refl _⟩
    · have e : num [s[0]] = some (s[0].toNat - 48) := by simp [num, isDig_in h3 h4]
      rw [e]
      have E := Lib.hid (show (((s[0].toNat - 48 : Nat)) : Int) = (s[0].toNat : Int) - 48 by omega)
      clear e
      go_enter Tryd.func35, Tryd.ntmps35
      go_wp2
      go_ret
      refine ⟨?_, Ext.refl _⟩
      simp [numR, E.out]
    · have e := num_bad1 (isDig_hi h3)
      rw [e]
      clear e
      have hd : decide ((s[0].toNat : Int) ≤ 57) = false := by simpa using h3
      go_enter Tryd.func35, Tryd.ntmps35
      go_wp2
      go_ret
      exact ⟨rfl, Ext.refl _⟩
  · have e := tl_two h
    rw [e]
    clear e
    have hb : (s[0].toNat : Int) < 256 := by have := s[0].toNat_lt; omega
    have hb2 : (s[1].toNat : Int) < 256 := by have := s[1].toNat_lt; omega
    rcases (show (s[0].toNat : Int) < 49 ∨ (49 ≤ (s[0].toNat : Int) ∧ (s[0].toNat : Int) ≤ 57) ∨ 57 < (s[0].toNat : Int) by omega) with h3 | ⟨h3, h4⟩ | h3
    · have e : num [s[0], s[1]] = none := by
        by_cases h48 : s[0].toNat = 48
        · simp [num, h48]
        · simp [num, isDig_lo (show (s[0].toNat : Int) < 48 by omega)]
      rw [e]
      clear e
      have hd : decide (49 ≤ (s[0].toNat : Int)) = false := by simpa using h3
      go_enter Tryd.func35, Tryd.ntmps35
      go_wp2
      go_ret
      exact ⟨rfl, Ext.refl _⟩
    · have hn2 : (s[0].toNat == 48) = false := by rw [beq_eq_false_iff_ne]; omega
      rcases (show (s[1].toNat : Int) < 48 ∨ (48 ≤ (s[1].toNat : Int) ∧ (s[1].toNat : Int) ≤ 57) ∨ 57 < (s[1].toNat : Int) by omega) with h5 | ⟨h5, h6⟩ | h5
      · have e : num [s[0], s[1]] = none := by simp [num, isDig_lo h5]
        rw [e]
        clear e hn2
        have hd : decide (48 ≤ (s[1].toNat : Int)) = false := by simpa using h5
        go_enter Tryd.func35, Tryd.ntmps35
        go_wp2
        go_ret
        exact ⟨rfl, Ext.refl _⟩
      · have e : num [s[0], s[1]] = some (10 * (s[0].toNat - 48) + (s[1].toNat - 48)) := by simp [num, isDig_in h5 h6, isDig_in (show 48 ≤ (s[0].toNat : Int) by omega) h4, hn2]
        rw [e]
        have E := Lib.hid (show (((10 * (s[0].toNat - 48) + (s[1].toNat - 48) : Nat)) : Int) = 10 * ((s[0].toNat : Int) - 48) + (s[1].toNat : Int) - 48 by omega)
        clear e hn2
        go_enter Tryd.func35, Tryd.ntmps35
        go_wp2
        go_quiet (fail)
        go_wp2
        go_ret
        refine ⟨?_, (Ext.refl _).drewN _⟩
        simp [numR, E.out]
      · have e : num [s[0], s[1]] = none := by simp [num, isDig_hi h5]
        rw [e]
        clear e hn2
        have hd : decide ((s[1].toNat : Int) ≤ 57) = false := by simpa using h5
        go_enter Tryd.func35, Tryd.ntmps35
        go_wp2
        go_ret
        exact ⟨rfl, Ext.refl _⟩
    · have e : num [s[0], s[1]] = none := by simp [num, isDig_hi h3]
      rw [e]
      clear e
      have hd : decide ((s[0].toNat : Int) ≤ 57) = false := by simpa using h3
      go_enter Tryd.func35, Tryd.ntmps35
      go_wp2
      go_ret
      exact ⟨rfl, Ext.refl _⟩
  · have he2 : num (tl s) = none := num_long (by rw [tl_length]; exact h)
    have h2 : (2 : Int) < s.size := by omega
    have e1 : ((s.size : Int) == 1) = false := by rw [beq_eq_false_iff_ne]; omega
    have e2 : ((s.size : Int) == 2) = false := by rw [beq_eq_false_iff_ne]; omega
    rw [he2]
    clear he2
    go_enter Tryd.func35, Tryd.ntmps35
    go_wp2
    go_ret
    exact ⟨rfl, Ext.refl _⟩
/-- the spans of the fields -/
def lo (k : Nat) : Nat := if k = 2 ∨ k = 3 then 1 else 0
def hi (k : Nat) : Nat := if k = 0 then 59 else if k = 1 then 23 else if k = 2 then 31 else if k = 3 then 12 else 6
theorem least_any (w : World) (k : Nat) (hk : k < 5) : Calls Tryd.prog 36 #[.int .i64 (k : Int)] w fun e w' => e = .returned (.int .i64 (lo k : Nat)) ∧ w = w' := by
  rcases (show k = 0 ∨ k = 1 ∨ k = 2 ∨ k = 3 ∨ k = 4 by omega) with rfl | rfl | rfl | rfl | rfl
  all_goals
    go_enter Tryd.func36, Tryd.ntmps36
    go_wp2
    go_ret
    exact ⟨rfl, rfl⟩
theorem most_any (w : World) (k : Nat) (hk : k < 5) : Calls Tryd.prog 37 #[.int .i64 (k : Int)] w fun e w' => e = .returned (.int .i64 (hi k : Nat)) ∧ w = w' := by
  rcases (show k = 0 ∨ k = 1 ∨ k = 2 ∨ k = 3 ∨ k = 4 by omega) with rfl | rfl | rfl | rfl | rfl
  all_goals
    go_enter Tryd.func37, Tryd.ntmps37
    go_wp2
    go_ret
    exact ⟨rfl, rfl⟩
end Go.Proofs.YtmgpkadgalgnnaaDoor
