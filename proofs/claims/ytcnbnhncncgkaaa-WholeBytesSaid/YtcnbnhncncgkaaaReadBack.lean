/- PLAIN: what is written is read again: numbers, texts, sums. -/
import Derived.Test.YtcnbnhncncgkaaaRText
namespace Go.Proofs.Ytcnbnhncncgkaaa
set_option linter.unusedVariables false
set_option linter.unusedSimpArgs false
open Go
theorem drop_at {α : Type} {b : List α} {i : Nat} {x : α} {t : List α} (h : b.drop i = x :: t) : i < b.length ∧ b[i]? = some x ∧ b.drop (i + 1) = t := by
  have hl : i < b.length := by
    rcases Nat.lt_or_ge i b.length with h' | h'
    · exact h'
    · rw [List.drop_eq_nil_of_le h'] at h; cases h
  rw [List.drop_eq_getElem_cons hl] at h
  injection h with h1 h2
  exact ⟨hl, by rw [List.getElem?_eq_getElem hl, h1], h2⟩
theorem byte_read {b : List UInt8} {i : Nat} {x : UInt8} {t : List UInt8} (h : b.drop i = x :: t) : (⟨b, i, 0⟩ : Rd).byte = (x.toNat, ⟨b, i + 1, 0⟩) := by
  obtain ⟨h1, h2, _⟩ := drop_at h
  unfold Rd.byte
  rw [if_pos rfl, if_pos h1]
  simp only [List.getD_eq_getElem?_getD, h2, Option.getD_some]
theorem numGo_read {b t : List UInt8} : ∀ (f k n y i : Nat), k + f = 10 → (k = 0 ∨ y ≠ 0) → y < 2 ^ (64 - 7 * k) → 0 < f → b.drop i = numB y ++ t → Rd.numGo f k n ⟨b, i, 0⟩ = (n + y * 2 ^ (7 * k), ⟨b, i + (numB y).length, 0⟩)
  | 0, _, _, _, _, _, _, _, hf, _ => absurd hf (Nat.lt_irrefl _)
  | f + 1, k, n, y, i, hk, h0, hy, _, h => by
    have h9 : k = 9 → y < 2 := by rintro rfl; simpa using hy
    unfold Rd.numGo
    by_cases hs : y < 128
    · rw [numB_small hs] at h ⊢
      have hb := byte_read (t := t) (by simpa using h)
      have hx : (UInt8.ofNat y).toNat = y := by simp; omega
      rw [hb]
      simp only [hx]
      rw [if_neg (by simp), if_neg (by omega), if_pos hs, Nat.mod_eq_of_lt hs]
      simp
    · rw [numB_big hs] at h ⊢
      have hx : (UInt8.ofNat (y % 128 + 128)).toNat = y % 128 + 128 := by
        rw [UInt8.toNat_ofNat']; omega
      generalize UInt8.ofNat (y % 128 + 128) = d at *
      have hb := byte_read (t := numB (y / 128) ++ t) (by simpa using h)
      rw [hb]
      simp only [hx]
      have hk8 : k ≤ 8 := by
        rcases Nat.lt_or_ge 8 k with h' | h'
        · have := h9 (by omega); omega
        · exact h'
      rw [if_neg (by simp), if_neg (by omega), if_neg (by omega)]
      have hp : 2 ^ (64 - 7 * k) = 128 * 2 ^ (64 - 7 * (k + 1)) := by
        rw [show 64 - 7 * k = 7 + (64 - 7 * (k + 1)) by omega, Nat.pow_add]
      have := numGo_read (t := t) f (k + 1) (n + (y % 128 + 128) % 128 * 2 ^ (7 * k)) (y / 128) (i + 1) (by omega) (Or.inr (by omega))
        (by rw [Nat.div_lt_iff_lt_mul (by omega), Nat.mul_comm, ← hp]; exact hy) (by omega) (drop_at h).2.2
      rw [this]
      have e : n + (y % 128 + 128) % 128 * 2 ^ (7 * k) + y / 128 * 2 ^ (7 * (k + 1)) = n + y * 2 ^ (7 * k) := by
        rw [show 7 * (k + 1) = 7 + 7 * k by omega, Nat.pow_add, ← Nat.mul_assoc, Nat.add_assoc, ← Nat.add_mul]
        congr 2; omega
      rw [e]
      simp; omega
theorem num_read {b t : List UInt8} {n most i : Nat} (hn : n < 18446744073709551616) (hle : n ≤ most) (h : b.drop i = numB n ++ t) : Rd.num most ⟨b, i, 0⟩ = (n, ⟨b, i + (numB n).length, 0⟩) := by
  have hg := numGo_read (t := t) 10 0 0 n i rfl (Or.inl rfl) (by simpa using hn) (by omega) h
  unfold Rd.num
  rw [hg]
  simp
  omega
theorem take_read {b x t : List UInt8} {i n : Nat} (hn : n = x.length) (h : b.drop i = x ++ t) (hi : i ≤ b.length) : Rd.takeL n ⟨b, i, 0⟩ = (x, ⟨b, i + x.length, 0⟩) := by
  subst hn
  have hl := congrArg List.length h
  simp only [List.length_drop, List.length_append] at hl
  unfold Rd.takeL
  rw [if_pos rfl, if_pos (show i + x.length ≤ b.length by omega)]
  simp only [h, List.take_left']
theorem drop_drop_at {b x t : List UInt8} {i : Nat} (h : b.drop i = x ++ t) : b.drop (i + x.length) = t := by
  rw [← List.drop_drop, h, List.drop_left']; rfl
theorem text_read {b x t : List UInt8} {i : Nat} (h : b.drop i = (numB x.length ++ x) ++ t) (hi : i ≤ b.length) (hx : x.length ≤ 4096) : Rd.text ⟨b, i, 0⟩ = (x, ⟨b, i + (numB x.length ++ x).length, 0⟩) := by
  rw [List.append_assoc] at h
  unfold Rd.text
  have hl := congrArg List.length h
  simp only [List.length_drop, List.length_append] at hl
  rw [num_read (by omega) hx h]
  simp only
  rw [take_read rfl (drop_drop_at h) (by omega)]
  simp; omega
theorem zag_zig (n : Int) (h1 : -9223372036854775808 ≤ n) (h2 : n ≤ 9223372036854775807) : zagI (zigN n) = n := by
  unfold zigN zagI
  split <;> split <;> omega
end Go.Proofs.Ytcnbnhncncgkaaa
