/- The walk of a reader's Num. -/
import Derived.Test.YtcnbnhncncgkaaaRTake
namespace Go.Proofs.Ytcnbnhncncgkaaa
set_option linter.unusedVariables false
set_option linter.unusedSimpArgs false
open Go Go.RowKit
/-- a number's bytes from the k-th on, n so far -/
def Rd.numGo : Nat → Nat → Nat → Rd → Nat × Rd
  | 0, _, _, s => (0, s)
  | f + 1, k, n, s =>
    if s.byte.2.err ≠ 0 then (0, s.byte.2)
    else if (k = 9 ∧ 1 < s.byte.1) ∨ (0 < k ∧ s.byte.1 = 0) then (0, s.byte.2.fail 8)
    else if s.byte.1 < 128 then (n + s.byte.1 % 128 * 2 ^ (7 * k), s.byte.2)
    else Rd.numGo f (k + 1) (n + s.byte.1 % 128 * 2 ^ (7 * k)) s.byte.2
def Rd.num (most : Nat) (s : Rd) : Nat × Rd :=
  if (Rd.numGo 10 0 0 s).2.err ≠ 0 then (0, (Rd.numGo 10 0 0 s).2) else if most < (Rd.numGo 10 0 0 s).1 then (0, (Rd.numGo 10 0 0 s).2.fail 2) else Rd.numGo 10 0 0 s
theorem shl_sum (k m y : Nat) (hm : m < 2 ^ (7 * k)) (hy : y < 128) : m + y * 2 ^ (7 * k) < 2 ^ (7 * (k + 1)) := by
  have e : 2 ^ (7 * (k + 1)) = 128 * 2 ^ (7 * k) := by rw [show 7 * (k + 1) = 7 + 7 * k by omega, Nat.pow_add]
  rw [e]
  have : (y + 1) * 2 ^ (7 * k) ≤ 128 * 2 ^ (7 * k) := Nat.mul_le_mul_right _ (by omega)
  rw [Nat.add_mul] at this
  omega
theorem shl_lt (k x : Nat) (hk : k ≤ 9) (h : k ≤ 8 ∨ x % 128 ≤ 1) : x % 128 * 2 ^ (7 * k) ≤ 9223372036854775808 := by
  rcases h with h | h
  · have h1 : 2 ^ (7 * k) ≤ 2 ^ 56 := Nat.pow_le_pow_right (by omega) (by omega)
    exact Nat.le_trans (Nat.mul_le_mul (show x % 128 ≤ 128 by omega) h1) (by decide)
  · have h1 : 2 ^ (7 * k) ≤ 2 ^ 63 := Nat.pow_le_pow_right (by omega) (by omega)
    exact Nat.le_trans (Nat.mul_le_mul h h1) (by decide)
theorem sum_lt (k m x : Nat) (hk : k ≤ 9) (hm : m < 2 ^ (7 * k)) (h : k ≤ 8 ∨ x % 128 ≤ 1) : m + x % 128 * 2 ^ (7 * k) < 18446744073709551616 := by
  have h1 := shl_lt k x hk h
  have h2 : 2 ^ (7 * k) ≤ 2 ^ 63 := Nat.pow_le_pow_right (by omega) (by omega)
  omega
theorem or_shift (k m x : Nat) (hk : k ≤ 9) (hm : m < 2 ^ (7 * k)) (h : k ≤ 8 ∨ x % 128 ≤ 1) : bits .or .u64 (m : Int) (IntKind.u64.wrap ((x : Int) % 128 * 2 ^ (7 * k))) = ((m + x % 128 * 2 ^ (7 * k) : Nat) : Int) := by
  have h1 := shl_lt k x hk h
  have h2 : 2 ^ (7 * k) ≤ 2 ^ 63 := Nat.pow_le_pow_right (by omega) (by omega)
  have e : IntKind.u64.wrap ((x : Int) % 128 * 2 ^ (7 * k)) = ((x % 128 * 2 ^ (7 * k) : Nat) : Int) := by
    have e1 : (x : Int) % 128 * 2 ^ (7 * k) = ((x % 128 * 2 ^ (7 * k) : Nat) : Int) := by simp
    rw [e1, IntKind.wrap_u64]; omega
  rw [e, or_nat_u64 _ _ (by omega) (by omega), Nat.or_comm, Nat.mul_comm, ← Nat.two_pow_add_eq_or_of_lt hm]
  congr 1
  omega
section
variable {W : World} {r g c : Nat} {s : Rd} {F : Nat → Prop}
def NumIs (r g c : Nat) (s : Rd) (W : World) (n sh : Value) (wr : World) : Prop :=
  ∃ (k m : Nat) (s' : Rd), k ≤ 9 ∧ m < 2 ^ (7 * k) ∧ n = .int .u64 m ∧ sh = .int .i64 (7 * (k : Int)) ∧ Rd.numGo 10 0 0 s = Rd.numGo (10 - k) k m s' ∧ RRep wr r g c s' ∧ Tch (RFoot r g) W wr
set_option maxRecDepth 100000 in
set_option maxHeartbeats 8000000 in
theorem rnum_rep (h : RRep W r g c s) (most : Nat) (hm : most < 18446744073709551616) : Calls Try.prog 23 #[.pointer (some ⟨r, 0, none⟩), .int .u64 most] W fun e' W' => e' = .returned (.int .u64 (s.num most).1) ∧ RRep W' r g c (s.num most).2 ∧ Tch (RFoot r g) W W' := by
  have hT := Tch.refl (RFoot r g) W
  go_enter Try.func23, Try.ntmps23
  go_wp2_with fail
  go_loopw [5, 6] (fun n sh wr => NumIs r g c s W n sh wr) (fun _ sh _ => (70 - intOf sh).toNat)
  case atStart => exact ⟨0, 0, s, by omega, by simp, rfl, rfl, rfl, h, hT⟩
  case round =>
    clear h hT
    obtain ⟨k, m, s', hk, hmk, rfl, rfl, hgo, h, hT⟩ := hrel
    go_wp2_with fail
    refine (rbyte_rep h).mono ?_
    rintro e w2 ⟨rfl, h2, ht2⟩
    have hx := s'.byte_lt
    have hgo2 : Rd.numGo (10 - k) k m s' = if s'.byte.2.err ≠ 0 then (0, s'.byte.2)
        else if (k = 9 ∧ 1 < s'.byte.1) ∨ (0 < k ∧ s'.byte.1 = 0) then (0, s'.byte.2.fail 8)
        else if s'.byte.1 < 128 then (m + s'.byte.1 % 128 * 2 ^ (7 * k), s'.byte.2)
        else Rd.numGo (10 - (k + 1)) (k + 1) (m + s'.byte.1 % 128 * 2 ^ (7 * k)) s'.byte.2 := by
      rw [show 10 - k = (10 - (k + 1)) + 1 by omega]; rfl
    replace hgo := hgo.trans hgo2
    replace hT := hT.trans ht2 (fun _ h _ => h)
    clear hgo2 ht2 h
    generalize s'.byte.1 = x at *
    generalize s'.byte.2 = s1 at *
    have c2 := h2.c2
    by_cases he : s1.err = 0
    · rw [if_neg (by simpa using he)] at hgo
      rw [he] at c2
      by_cases hbad : (k = 9 ∧ 1 < x) ∨ (0 < k ∧ x = 0)
      · rw [if_pos hbad] at hgo
        have hnum : s.num most = (0, s1.fail 8) := by
          have h8 : (s1.fail 8).err = 8 := by unfold Rd.fail; rw [if_pos he]
          unfold Rd.num; rw [hgo, if_pos (by rw [h8]; decide)]
        have HN := Lib.hid hnum
        clear hgo hnum he
        by_cases hb1 : k = 9 ∧ 1 < x
        · obtain ⟨hk9, hx1⟩ := hb1
          have f1 : (7 * (k : Int) == 63) = true := by simp; omega
          have f2 : (1 : Int) < x := by omega
          have HK := Lib.hid hk9
          clear hk9 hbad
          go_wp2_with fail
          refine (rfail_rep h2 8).mono ?_
          rintro e w3 ⟨rfl, h3, ht3⟩
          clear h2 c2
          go_wp2_with fail
          go_ret
          exact ⟨by rw [HN.out]; rfl, by rw [HN.out]; exact h3, hT.trans ht3 (fun _ h _ => h)⟩
        · have hb2 : 0 < k ∧ x = 0 := hbad.resolve_left hb1
          obtain ⟨hk0, rfl⟩ := hb2
          have f3 : 0 < 7 * (k : Int) := by omega
          by_cases hk9 : k = 9
          · have f1 : (7 * (k : Int) == 63) = true := by simp; omega
            have HK := Lib.hid hk9
            clear hk9 hbad hb1
            go_wp2_with fail
            refine (rfail_rep h2 8).mono ?_
            rintro e w3 ⟨rfl, h3, ht3⟩
            clear h2 c2
            go_wp2_with fail
            go_ret
            exact ⟨by rw [HN.out]; rfl, by rw [HN.out]; exact h3, hT.trans ht3 (fun _ h _ => h)⟩
          · have f1 : (7 * (k : Int) == 63) = false := by simp; omega
            clear hk9 hbad hb1
            go_wp2_with fail
            refine (rfail_rep h2 8).mono ?_
            rintro e w3 ⟨rfl, h3, ht3⟩
            clear h2 c2
            go_wp2_with fail
            go_ret
            exact ⟨by rw [HN.out]; rfl, by rw [HN.out]; exact h3, hT.trans ht3 (fun _ h _ => h)⟩
      · rw [if_neg hbad] at hgo
        have hor := or_shift k m x hk hmk (by
          rcases Nat.lt_or_ge k 9 with h | h
          · exact Or.inl (by omega)
          · refine Or.inr ?_
            have : ¬ 1 < x := fun h1 => hbad (Or.inl ⟨by omega, h1⟩)
            omega)
        have hsum := shl_sum k m (x % 128) hmk (by omega)
        have hs64 := sum_lt k m x hk hmk (by
          rcases Nat.lt_or_ge k 9 with h | h
          · exact Or.inl (by omega)
          · refine Or.inr ?_
            have : ¬ 1 < x := fun h1 => hbad (Or.inl ⟨by omega, h1⟩)
            omega)
        have hand := u8_and_low x hx
        generalize hn' : m + x % 128 * 2 ^ (7 * k) = n' at *
        by_cases hl : x < 128
        · rw [if_pos hl] at hgo
          by_cases hmost : most < n'
          · have hnum : s.num most = (0, s1.fail 2) := by
              unfold Rd.num; rw [hgo, if_neg (by simpa using he), if_pos hmost]
            have HN := Lib.hid hnum
            clear hgo hnum he hn' hsum
            by_cases hk9 : k = 9
            · have f1 : (7 * (k : Int) == 63) = true := by simp; omega
              have f2 : ¬ (1 : Int) < x := by
                have : ¬ 1 < x := fun h1 => hbad (Or.inl ⟨hk9, h1⟩)
                omega
              have f3 : 0 < 7 * (k : Int) := by omega
              have f4 : ((x : Int) == 0) = false := by
                have : x ≠ 0 := fun h1 => hbad (Or.inr ⟨by omega, h1⟩)
                simp; omega
              have HK := Lib.hid hk9
              clear hk9 hbad
              go_wp2_with fail
              refine (rfail_rep h2 2).mono ?_
              rintro e w3 ⟨rfl, h3, ht3⟩
              clear h2 c2
              go_wp2_with fail
              go_ret
              exact ⟨by rw [HN.out]; rfl, by rw [HN.out]; exact h3, hT.trans ht3 (fun _ h _ => h)⟩
            · by_cases hk0 : k = 0
              · have f1 : (7 * (k : Int) == 63) = false := by simp; omega
                have f3 : ¬ 0 < 7 * (k : Int) := by omega
                have HK := Lib.hid hk0
                clear hk9 hk0 hbad
                go_wp2_with fail
                refine (rfail_rep h2 2).mono ?_
                rintro e w3 ⟨rfl, h3, ht3⟩
                clear h2 c2
                go_wp2_with fail
                go_ret
                exact ⟨by rw [HN.out]; rfl, by rw [HN.out]; exact h3, hT.trans ht3 (fun _ h _ => h)⟩
              · have f1 : (7 * (k : Int) == 63) = false := by simp; omega
                have f3 : 0 < 7 * (k : Int) := by omega
                have f4 : ((x : Int) == 0) = false := by
                  have : x ≠ 0 := fun h1 => hbad (Or.inr ⟨by omega, h1⟩)
                  simp; omega
                clear hk9 hk0 hbad
                go_wp2_with fail
                refine (rfail_rep h2 2).mono ?_
                rintro e w3 ⟨rfl, h3, ht3⟩
                clear h2 c2
                go_wp2_with fail
                go_ret
                exact ⟨by rw [HN.out]; rfl, by rw [HN.out]; exact h3, hT.trans ht3 (fun _ h _ => h)⟩
          · have hnum : s.num most = (n', s1) := by
              unfold Rd.num; rw [hgo, if_neg (by simpa using he), if_neg hmost]
            have HN := Lib.hid hnum
            clear hgo hnum he hn' hsum
            by_cases hk9 : k = 9
            · have f1 : (7 * (k : Int) == 63) = true := by simp; omega
              have f2 : ¬ (1 : Int) < x := by
                have : ¬ 1 < x := fun h1 => hbad (Or.inl ⟨hk9, h1⟩)
                omega
              have f3 : 0 < 7 * (k : Int) := by omega
              have f4 : ((x : Int) == 0) = false := by
                have : x ≠ 0 := fun h1 => hbad (Or.inr ⟨by omega, h1⟩)
                simp; omega
              have HK := Lib.hid hk9
              clear hk9 hbad
              go_wp2_with fail
              go_ret
              exact ⟨by rw [HN.out]; rfl, by rw [HN.out]; exact h2, hT⟩
            · by_cases hk0 : k = 0
              · have f1 : (7 * (k : Int) == 63) = false := by simp; omega
                have f3 : ¬ 0 < 7 * (k : Int) := by omega
                have HK := Lib.hid hk0
                clear hk9 hk0 hbad
                go_wp2_with fail
                go_ret
                exact ⟨by rw [HN.out]; rfl, by rw [HN.out]; exact h2, hT⟩
              · have f1 : (7 * (k : Int) == 63) = false := by simp; omega
                have f3 : 0 < 7 * (k : Int) := by omega
                have f4 : ((x : Int) == 0) = false := by
                  have : x ≠ 0 := fun h1 => hbad (Or.inr ⟨by omega, h1⟩)
                  simp; omega
                clear hk9 hk0 hbad
                go_wp2_with fail
                go_ret
                exact ⟨by rw [HN.out]; rfl, by rw [HN.out]; exact h2, hT⟩
        · rw [if_neg hl] at hgo
          have HG := Lib.hid hgo
          have hk8 : k ≤ 8 := by
            rcases Nat.lt_or_ge k 9 with h | h
            · omega
            · exact absurd (Or.inl ⟨by omega, by omega⟩) hbad
          clear hgo he hn'
          by_cases hk9 : k = 9
          · have f1 : (7 * (k : Int) == 63) = true := by simp; omega
            have f2 : ¬ (1 : Int) < x := by
              have : ¬ 1 < x := fun h1 => hbad (Or.inl ⟨hk9, h1⟩)
              omega
            have f3 : 0 < 7 * (k : Int) := by omega
            have f4 : ((x : Int) == 0) = false := by
              have : x ≠ 0 := fun h1 => hbad (Or.inr ⟨by omega, h1⟩)
              simp; omega
            have HK := Lib.hid hk9
            clear hk9 hbad
            first
              | (exfalso; have := HK.out; omega)
              | (go_wp2_with fail
                 exact ⟨⟨k + 1, n', s1, by omega, hsum, rfl, by go_num, HG.out, h2, hT⟩, by simp [intOf]; omega⟩)
          · by_cases hk0 : k = 0
            · have f1 : (7 * (k : Int) == 63) = false := by simp; omega
              have f3 : ¬ 0 < 7 * (k : Int) := by omega
              have HK := Lib.hid hk0
              clear hk9 hk0 hbad
              first
                | (exfalso; have := HK.out; omega)
                | (go_wp2_with fail
                   exact ⟨⟨k + 1, n', s1, by omega, hsum, rfl, by go_num, HG.out, h2, hT⟩, by simp [intOf]; omega⟩)
            · have f1 : (7 * (k : Int) == 63) = false := by simp; omega
              have f3 : 0 < 7 * (k : Int) := by omega
              have f4 : ((x : Int) == 0) = false := by
                have : x ≠ 0 := fun h1 => hbad (Or.inr ⟨by omega, h1⟩)
                simp; omega
              clear hk9 hk0 hbad
              first
                | (exfalso; have := HK.out; omega)
                | (go_wp2_with fail
                   exact ⟨⟨k + 1, n', s1, by omega, hsum, rfl, by go_num, HG.out, h2, hT⟩, by simp [intOf]; omega⟩)
    · rw [if_pos he] at hgo
      have hnum : s.num most = (0, s1) := by
        unfold Rd.num; rw [hgo, if_pos he]
      have HN := Lib.hid hnum
      have e1 : (s1.err != 0) = true := by simp [he]
      have e2 : (s1.err == 0) = false := by simp [he]
      clear hgo hnum he
      go_wp2_with fail
      go_ret
      exact ⟨by rw [HN.out]; rfl, by rw [HN.out]; exact h2, hT⟩
end
end Go.Proofs.Ytcnbnhncncgkaaa
