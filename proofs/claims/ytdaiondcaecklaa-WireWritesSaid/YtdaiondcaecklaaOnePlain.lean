/- WireOne, in plain Lean: what is read as a number is what it is written in. -/
import Derived.Test.YtdaiondcaecklaaRText
namespace Go.Proofs.Ytdaiondcaecklaa
set_option linter.unusedVariables false
set_option linter.unusedSimpArgs false
open Go
/-- a number of which n (less than 2^7k) was read, m is still to come -/
theorem numGo_form : ∀ (f k n : Nat) (s : Rd) (m : Nat) (s' : Rd), k + f = 10 → 0 < f → n < 2 ^ (7 * k) → s.at_ ≤ s.b.length → Rd.numGo f k n s = (m, s') → s'.err = 0 →
    ∃ y, m = n + y * 2 ^ (7 * k) ∧ (0 < k → y ≠ 0) ∧ s'.b = s.b ∧ s.at_ ≤ s'.at_ ∧ s'.at_ ≤ s.b.length ∧ s.b.drop s.at_ = numB y ++ s.b.drop s'.at_ ∧ (numB y).length = s'.at_ - s.at_
  | 0, _, _, _, _, _, _, hf, _, _, _, _ => absurd hf (Nat.lt_irrefl _)
  | f + 1, k, n, s, m, s', hk, _, hn, hle, h, he => by
    have key : ∀ (_ : s.byte.2.err = 0), s.at_ < s.b.length ∧ s.byte = ((s.b.getD s.at_ 0).toNat, { s with at_ := s.at_ + 1 }) := by
      intro he1
      unfold Rd.byte at he1 ⊢
      by_cases h0 : s.err = 0
      · rw [if_pos h0] at he1 ⊢
        by_cases h1 : s.at_ < s.b.length
        · rw [if_pos h1]; exact ⟨h1, rfl⟩
        · rw [if_neg h1] at he1; simp at he1
      · rw [if_neg h0] at he1; exact absurd he1 h0
    unfold Rd.numGo at h
    by_cases he1 : s.byte.2.err = 0
    · obtain ⟨hlt, hb⟩ := key he1
      rw [if_neg (by simpa using he1)] at h
      rw [hb] at h
      simp only at h
      have hx : (s.b.getD s.at_ 0).toNat < 256 := UInt8.toNat_lt _
      have hof : UInt8.ofNat (s.b.getD s.at_ 0).toNat = s.b.getD s.at_ 0 := by simp
      have hdrop := drop_cons s.b 0 s.at_ hlt
      generalize s.b.getD s.at_ 0 = c at *
      generalize c.toNat = x at *
      have hs0 : s.err = 0 := by
        unfold Rd.byte at he1
        by_cases h0 : s.err = 0
        · exact h0
        · rw [if_neg h0] at he1; exact he1
      by_cases hbad : (k = 9 ∧ 1 < x) ∨ (0 < k ∧ x = 0)
      · rw [if_pos hbad] at h
        simp only [Prod.mk.injEq] at h
        obtain ⟨_, rfl⟩ := h
        simp [Rd.fail, hs0] at he
      · rw [if_neg hbad] at h
        by_cases hl : x < 128
        · rw [if_pos hl] at h
          simp only [Prod.mk.injEq] at h
          obtain ⟨rfl, rfl⟩ := h
          refine ⟨x, by rw [Nat.mod_eq_of_lt hl], fun h0 hx0 => hbad (Or.inr ⟨h0, hx0⟩), rfl, by simp, Nat.succ_le_of_lt hlt, ?_, ?_⟩
          · rw [numB_small hl, hof, hdrop]; rfl
          · rw [numB_small hl]; simp
        · rw [if_neg hl] at h
          have hk9 : k < 9 := by
            rcases Nat.lt_or_ge k 9 with h9 | h9
            · exact h9
            · exact absurd (Or.inl ⟨by omega, by omega⟩) hbad
          obtain ⟨y, h1, h2, h3, h4, h5, h6, h7⟩ := numGo_form f (k + 1) _ _ m s' (by omega) (by omega) (shl_sum k n (x % 128) hn (by omega)) (Nat.succ_le_of_lt hlt) h he
          simp only at h3 h4 h5 h6 h7
          have hy := h2 (by omega)
          have hb128 : ¬ (x % 128 + 128 * y) < 128 := by omega
          have hm1 : (x % 128 + 128 * y) % 128 + 128 = x := by omega
          have hd1 : (x % 128 + 128 * y) / 128 = y := by omega
          refine ⟨x % 128 + 128 * y, ?_, fun _ => by omega, h3, by omega, h5, ?_, ?_⟩
          · rw [h1, show 7 * (k + 1) = 7 + 7 * k by omega, Nat.pow_add]
            have : y * (2 ^ 7 * 2 ^ (7 * k)) = 128 * y * 2 ^ (7 * k) := by rw [← Nat.mul_assoc]; congr 1; omega
            rw [this, Nat.add_mul]; omega
          · rw [numB_big hb128, hm1, hd1, hof, hdrop, h6]; rfl
          · rw [numB_big hb128, hd1]; simp; omega
    · rw [if_pos he1] at h
      simp only [Prod.mk.injEq] at h
      obtain ⟨_, rfl⟩ := h
      exact absurd he he1
theorem num_form {most : Nat} {s s' : Rd} {m : Nat} (hle : s.at_ ≤ s.b.length) (h : s.num most = (m, s')) (he : s'.err = 0) :
    s'.b = s.b ∧ s.at_ ≤ s'.at_ ∧ s'.at_ ≤ s.b.length ∧ s.b.drop s.at_ = numB m ++ s.b.drop s'.at_ ∧ (numB m).length = s'.at_ - s.at_ := by
  unfold Rd.num at h
  by_cases h1 : (Rd.numGo 10 0 0 s).2.err = 0
  case neg =>
    rw [if_pos h1] at h
    simp only [Prod.mk.injEq] at h
    obtain ⟨_, rfl⟩ := h
    exact absurd he h1
  · rw [if_neg (by simpa using h1)] at h
    split at h
    · simp only [Prod.mk.injEq] at h
      obtain ⟨_, rfl⟩ := h
      simp [Rd.fail, h1] at he
    · obtain ⟨y, h1, _, h3, h4, h5, h6, h7⟩ := numGo_form 10 0 0 s m s' rfl (by omega) (by simp) hle h he
      have : m = y := by simpa using h1
      subst this
      exact ⟨h3, h4, h5, h6, h7⟩
/-- with any bytes read from the beginning -/
theorem num_front {most : Nat} {b : List UInt8} {s' : Rd} {m : Nat} (h : (⟨b, 0, 0⟩ : Rd).num most = (m, s')) (he : s'.err = 0) : numB m = b.take s'.at_ ∧ s'.at_ ≤ b.length := by
  obtain ⟨_, _, h3, h4, h5⟩ := num_form (s := ⟨b, 0, 0⟩) (by simp) h he
  simp only [List.drop_zero, Nat.sub_zero] at h4 h5 h3
  refine ⟨?_, h3⟩
  rw [h4, List.take_left' h5]
/-- something went wrong: nought -/
theorem num_err {most : Nat} {s : Rd} (he : (s.num most).2.err ≠ 0) : (s.num most).1 = 0 := by
  unfold Rd.num at he ⊢
  split
  · rfl
  · rename_i h1
    rw [if_neg h1] at he
    split
    · rfl
    · rename_i h2
      rw [if_neg h2] at he
      exact absurd he h1
theorem zig_zag (n : Nat) : zigN (zagI n) = n := by
  unfold zigN zagI
  split <;> split <;> omega
end Go.Proofs.Ytdaiondcaecklaa
