/- cron: numbers, cuts and splits of texts. -/
import Derived.Test.YtnbdcdeidhhgoaaDoorCSmall
import Derived.Test.YtnbdcdeidhhgoaaDoorConv
import Derived.LoopN
namespace Go.Proofs.YtnbdcdeidhhgoaaDoor
set_option maxRecDepth 4000
set_option linter.unusedVariables false
set_option linter.unusedSimpArgs false
open Go Go.RowKit
def isDig (a : UInt8) : Bool := decide (48 ≤ a.toNat) && decide (a.toNat ≤ 57)
/-- a number of one or two digits, without a nought ahead -/
def num : List UInt8 → Option Nat
  | [a] => if isDig a then some (a.toNat - 48) else none
  | [a, b] => if isDig a && (isDig b && !(a.toNat == 48)) then some (10 * (a.toNat - 48) + (b.toNat - 48)) else none
  | _ => none
theorem num_le {l : List UInt8} {n : Nat} (h : num l = some n) : n ≤ 99 := by
  unfold num at h
  split at h
  · split at h
    · rename_i hd
      simp [isDig] at hd
      injection h with h; omega
    · cases h
  · split at h
    · rename_i hd
      simp [isDig] at hd
      injection h with h; omega
    · cases h
  · cases h
theorem num_bad1 {a : UInt8} (h : isDig a = false) : num [a] = none := by simp [num, h]
theorem isDig_lo {a : UInt8} (h : (a.toNat : Int) < 48) : isDig a = false := by simp [isDig]; omega
theorem isDig_hi {a : UInt8} (h : 57 < (a.toNat : Int)) : isDig a = false := by simp [isDig]; omega
theorem isDig_in {a : UInt8} (h : 48 ≤ (a.toNat : Int)) (h2 : (a.toNat : Int) ≤ 57) : isDig a = true := by simp [isDig]; omega
theorem strOf_size (l : List UInt8) : (strOf l).size = l.length := rfl
theorem strOf_toList (l : List UInt8) : (strOf l).toList = l := ByteArray.toList_mk l
def tl (s : ByteArray) : List UInt8 := s.data.toList
theorem tl_strOf (l : List UInt8) : tl (strOf l) = l := by simp [tl, strOf]
theorem strOf_tl (s : ByteArray) : strOf (tl s) = s := by cases s; simp [tl, strOf]
theorem tl_length (s : ByteArray) : (tl s).length = s.size := rfl
theorem tl_empty (s : ByteArray) : s.toList.isEmpty = (tl s).isEmpty := by rw [ByteArray.toList_eq]; rfl
theorem tl_get (s : ByteArray) (i : Nat) (h : i < s.size) : (tl s)[i]'(by rw [tl_length]; exact h) = s[i] := rfl
theorem tl_nil {s : ByteArray} (h : s.size = 0) : tl s = [] := List.eq_nil_of_length_eq_zero (by rw [tl_length]; exact h)
theorem tl_one {s : ByteArray} (h : s.size = 1) : tl s = [s[0]] := by
  have hl : (tl s).length = 1 := by rw [tl_length]; exact h
  apply List.ext_getElem (by simpa using hl)
  intro i h1 h2
  obtain rfl : i = 0 := by simp at h2; omega
  simp [tl_get s 0 (by omega)]
theorem tl_two {s : ByteArray} (h : s.size = 2) : tl s = [s[0], s[1]] := by
  have hl : (tl s).length = 2 := by rw [tl_length]; exact h
  apply List.ext_getElem (by simpa using hl)
  intro i h1 h2
  simp at h2
  rcases (show i = 0 ∨ i = 1 by omega) with rfl | rfl
  · simp [tl_get s 0 (by omega)]
  · simp [tl_get s 1 (by omega)]
theorem num_long {l : List UInt8} (h : 2 < l.length) : num l = none := by
  match l, h with
  | a :: b :: c :: r, _ => rfl
set_option maxHeartbeats 1000000 in
theorem number_any (w : World) (s : ByteArray) :
    Calls Tryd.prog 54 #[.string s] w fun e w' => e = .returned (.tuple #[.int .i64 ((num (tl s)).getD 0 : Nat), .bool (num (tl s)).isSome]) ∧ w = w' := by
  rcases (show s.size = 0 ∨ s.size = 1 ∨ s.size = 2 ∨ 2 < s.size by omega) with h | h | h | h
  · have he : s.toList.isEmpty = true := by rw [tl_empty, tl_nil h]; rfl
    have he2 : num (tl s) = none := by rw [tl_nil h]; rfl
    rw [he2]
    clear he2
    go_enter Tryd.func54, Tryd.ntmps54
    go_wp2
    try
      refine wp_loop_rounds 1 ?_
      repeat any_goals (rw [rounds_succ]; go_wp2)
    go_ret2
    exact ⟨rfl, rfl⟩
  · have he : s.toList.isEmpty = false := by rw [tl_empty, tl_one h]; rfl
    have e := tl_one h
    rw [e]
    clear e
    have hb : (s[0].toNat : Int) < 256 := by have := s[0].toNat_lt; omega
    rcases (show (s[0].toNat : Int) < 48 ∨ (48 ≤ (s[0].toNat : Int) ∧ (s[0].toNat : Int) ≤ 57) ∨ 57 < (s[0].toNat : Int) by omega) with h3 | ⟨h3, h4⟩ | h3
    · have e := num_bad1 (isDig_lo h3)
      rw [e]
      clear e
      go_enter Tryd.func54, Tryd.ntmps54
      go_wp2
      try
        refine wp_loop_rounds 2 ?_
        repeat any_goals (rw [rounds_succ]; go_wp2)
      go_ret2
      exact ⟨rfl, rfl⟩
    · have e : num [s[0]] = some (s[0].toNat - 48) := by simp [num, isDig_in h3 h4]
      rw [e]
      have E := Lib.hid (show (((s[0].toNat - 48 : Nat)) : Int) = (s[0].toNat : Int) - 48 by omega)
      clear e
      go_enter Tryd.func54, Tryd.ntmps54
      go_wp2
      refine wp_loop_rounds 2 ?_
      repeat any_goals (rw [rounds_succ]; go_wp2)
      go_ret2
      refine ⟨?_, rfl⟩
      have e3 := E.out
      simp only [Array.getD_eq_getD_getElem?]
      simp [E.out]
    · have e := num_bad1 (isDig_hi h3)
      rw [e]
      clear e
      go_enter Tryd.func54, Tryd.ntmps54
      go_wp2
      try
        refine wp_loop_rounds 2 ?_
        repeat any_goals (rw [rounds_succ]; go_wp2)
      go_ret2
      exact ⟨rfl, rfl⟩
  · have he : s.toList.isEmpty = false := by rw [tl_empty, tl_two h]; rfl
    have e := tl_two h
    rw [e]
    clear e
    have hb : (s[0].toNat : Int) < 256 := by have := s[0].toNat_lt; omega
    have hb2 : (s[1].toNat : Int) < 256 := by have := s[1].toNat_lt; omega
    rcases (show (s[0].toNat : Int) < 48 ∨ (s[0].toNat : Int) = 48 ∨ (49 ≤ (s[0].toNat : Int) ∧ (s[0].toNat : Int) ≤ 57) ∨ 57 < (s[0].toNat : Int) by omega) with h3 | h3 | ⟨h3, h4⟩ | h3
    · have e : num [s[0], s[1]] = none := by simp [num, isDig_lo h3]
      rw [e]
      clear e
      have hn : ((s[0].toNat : Int) == 48) = false := by rw [beq_eq_false_iff_ne]; omega
      go_enter Tryd.func54, Tryd.ntmps54
      go_wp2
      try
        refine wp_loop_rounds 3 ?_
        repeat any_goals (rw [rounds_succ]; go_wp2)
      go_ret2
      exact ⟨rfl, rfl⟩
    · have e : num [s[0], s[1]] = none := by simp [num, show s[0].toNat = 48 by omega]
      rw [e]
      clear e
      go_enter Tryd.func54, Tryd.ntmps54
      go_wp2
      try
        refine wp_loop_rounds 3 ?_
        repeat any_goals (rw [rounds_succ]; go_wp2)
      go_ret2
      exact ⟨rfl, rfl⟩
    · have hn : ((s[0].toNat : Int) == 48) = false := by rw [beq_eq_false_iff_ne]; omega
      have hn2 : (s[0].toNat == 48) = false := by rw [beq_eq_false_iff_ne]; omega
      rcases (show (s[1].toNat : Int) < 48 ∨ (48 ≤ (s[1].toNat : Int) ∧ (s[1].toNat : Int) ≤ 57) ∨ 57 < (s[1].toNat : Int) by omega) with h5 | ⟨h5, h6⟩ | h5
      · have e : num [s[0], s[1]] = none := by simp [num, isDig_lo h5]
        rw [e]
        clear e hn2
        go_enter Tryd.func54, Tryd.ntmps54
        go_wp2
        try
          refine wp_loop_rounds 3 ?_
          repeat any_goals (rw [rounds_succ]; go_wp2)
        go_ret2
        exact ⟨rfl, rfl⟩
      · have e : num [s[0], s[1]] = some (10 * (s[0].toNat - 48) + (s[1].toNat - 48)) := by simp [num, isDig_in h5 h6, isDig_in (show 48 ≤ (s[0].toNat : Int) by omega) h4, hn2]
        rw [e]
        have E := Lib.hid (show (((10 * (s[0].toNat - 48) + (s[1].toNat - 48) : Nat)) : Int) = 10 * ((s[0].toNat : Int) - 48) + ((s[1].toNat : Int) - 48) by omega)
        clear e hn2
        go_enter Tryd.func54, Tryd.ntmps54
        go_wp2
        refine wp_loop_rounds 3 ?_
        repeat any_goals (rw [rounds_succ]; go_wp2)
        go_ret2
        refine ⟨?_, rfl⟩
        have e3 := E.out
        simp only [Array.getD_eq_getD_getElem?]
        simp [E.out]
      · have e : num [s[0], s[1]] = none := by simp [num, isDig_hi h5]
        rw [e]
        clear e hn2
        go_enter Tryd.func54, Tryd.ntmps54
        go_wp2
        try
          refine wp_loop_rounds 3 ?_
          repeat any_goals (rw [rounds_succ]; go_wp2)
        go_ret2
        exact ⟨rfl, rfl⟩
    · have e : num [s[0], s[1]] = none := by simp [num, isDig_hi h3]
      rw [e]
      clear e
      have hn : ((s[0].toNat : Int) == 48) = false := by rw [beq_eq_false_iff_ne]; omega
      go_enter Tryd.func54, Tryd.ntmps54
      go_wp2
      try
        refine wp_loop_rounds 3 ?_
        repeat any_goals (rw [rounds_succ]; go_wp2)
      go_ret2
      exact ⟨rfl, rfl⟩
  · have he : s.toList.isEmpty = false := by
      rw [tl_empty]
      cases e : tl s with
      | nil => have := tl_length s; rw [e] at this; simp at this; omega
      | cons => rfl
    have he2 : num (tl s) = none := num_long (by rw [tl_length]; exact h)
    have h2 : (2 : Int) < s.size := by omega
    rw [he2]
    clear he2
    go_enter Tryd.func54, Tryd.ntmps54
    go_wp2
    try
      refine wp_loop_rounds 1 ?_
      repeat any_goals (rw [rounds_succ]; go_wp2)
    go_ret2
    exact ⟨rfl, rfl⟩
end Go.Proofs.YtnbdcdeidhhgoaaDoor
