/- The reader's plain state and the reference's lists agree. -/
import Derived.Test.YtdaiondcaecklaaRef3
namespace Go.Proofs.Ytdaiondcaecklaa
set_option linter.unusedVariables false
set_option linter.unusedSimpArgs false
open Go
structure Rd.Good (s : Rd) : Prop where
  le : s.at_ ≤ s.b.length
theorem Rd.rest_ok {s : Rd} (h : s.err = 0) : s.rest = s.b.drop s.at_ := if_pos h
theorem Rd.rest_bad {s : Rd} (h : s.err ≠ 0) : s.rest = [] := if_neg h
theorem Rd.left_rest (s : Rd) : s.left = s.rest.length := by
  unfold Rd.left Rd.rest; split <;> simp
theorem Rd.at_rest {s : Rd} (hg : s.Good) (h : s.err = 0) : s.at_ + s.rest.length = s.b.length := by
  rw [Rd.rest_ok h]; have := hg.le; simp; omega
theorem Rd.end_rest {s : Rd} : s.end_ = if s.err = 0 ∧ s.rest ≠ [] then 8 else s.err := by
  unfold Rd.end_
  by_cases h : s.err = 0
  · rw [Rd.rest_ok h]
    have : (s.at_ < s.b.length) ↔ s.b.drop s.at_ ≠ [] := by rw [Ne, List.drop_eq_nil_iff]; omega
    simp only [this]
  · rw [if_neg (fun h' => h h'.1), if_neg (fun h' => h h'.1)]
theorem Rd.take_good {s : Rd} (hg : s.Good) (n : Nat) : (s.takeL n).2.Good ∧ (s.takeL n).2.b = s.b := by
  unfold Rd.takeL
  split
  · split
    · exact ⟨⟨by assumption⟩, rfl⟩
    · exact ⟨⟨hg.le⟩, rfl⟩
  · exact ⟨hg, rfl⟩
theorem takeV_rd {s : Rd} (hg : s.Good) (n : Nat) : takeV s.rest s.err n = .tuple #[.string (strOf (s.takeL n).1), stV (s.takeL n).2.rest (s.takeL n).2.err] := by
  unfold takeV Rd.takeL
  by_cases h : s.err = 0
  · rw [if_pos h, if_pos h, Rd.rest_ok h]
    have hl : (s.b.drop s.at_).length = s.b.length - s.at_ := by simp
    have := hg.le
    by_cases h2 : s.at_ + n ≤ s.b.length
    · rw [if_pos (by omega), if_pos h2]
      have hr : Rd.rest { s with at_ := s.at_ + n } = s.b.drop (s.at_ + n) := Rd.rest_ok h
      rw [hr, List.drop_drop]
      simp [h]
    · rw [if_neg (by omega), if_neg h2]
      have hr : Rd.rest { s with err := 6 } = [] := Rd.rest_bad (by simp)
      rw [hr]
  · rw [if_neg h, if_neg h, Rd.rest_bad h]
theorem Rd.byte_take {s : Rd} : s.byte.2 = (s.takeL 1).2 ∧ (s.takeL 1).1 = (if (s.takeL 1).1 = [] then [] else [UInt8.ofNat s.byte.1]) ∧ ((s.takeL 1).1 = [] → s.byte.1 = 0) := by
  unfold Rd.byte Rd.takeL
  by_cases h : s.err = 0
  · rw [if_pos h, if_pos h]
    by_cases h2 : s.at_ < s.b.length
    · rw [if_pos h2, if_pos (by omega)]
      rw [drop_cons s.b 0 s.at_ h2]
      simp
    · rw [if_neg h2, if_neg (by omega)]
      simp
  · rw [if_neg h, if_neg h]
    simp
theorem goL_rd : ∀ (f k n : Nat) (s : Rd), k + f = 10 → 0 < f → s.err = 0 → s.Good → goL f k n s.rest = ((Rd.numGo f k n s).1, (Rd.numGo f k n s).2.rest, (Rd.numGo f k n s).2.err) ∧ (Rd.numGo f k n s).2.Good ∧ (Rd.numGo f k n s).2.b = s.b
  | 0, _, _, _, _, hf, _, _ => absurd hf (Nat.lt_irrefl _)
  | f + 1, k, n, s, hk, _, he, hg => by
    by_cases hlt : s.at_ < s.b.length
    · have hb : s.byte = ((s.b.getD s.at_ 0).toNat, { s with at_ := s.at_ + 1 }) := by unfold Rd.byte; rw [if_pos he, if_pos hlt]
      have e2 : Rd.numGo (f + 1) k n s = if (k = 9 ∧ 1 < (s.b.getD s.at_ 0).toNat) ∨ (0 < k ∧ (s.b.getD s.at_ 0).toNat = 0) then (0, Rd.fail { s with at_ := s.at_ + 1 } 8)
          else if (s.b.getD s.at_ 0).toNat < 128 then (n + (s.b.getD s.at_ 0).toNat % 128 * 2 ^ (7 * k), { s with at_ := s.at_ + 1 })
          else Rd.numGo f (k + 1) (n + (s.b.getD s.at_ 0).toNat % 128 * 2 ^ (7 * k)) { s with at_ := s.at_ + 1 } := by
        conv => lhs; unfold Rd.numGo
        rw [hb]
        exact if_neg (fun h => h he)
      rw [Rd.rest_ok he, drop_cons s.b 0 s.at_ hlt, goL_succ, e2]
      clear e2 hb
      generalize (s.b.getD s.at_ 0).toNat = x at *
      have hs1 : Rd.rest { s with at_ := s.at_ + 1 } = s.b.drop (s.at_ + 1) := Rd.rest_ok he
      have hg1 : Rd.Good { s with at_ := s.at_ + 1 } := ⟨hlt⟩
      by_cases hbad : (k = 9 ∧ 1 < x) ∨ (0 < k ∧ x = 0)
      · rw [if_pos hbad, if_pos hbad]
        have hf : Rd.fail { s with at_ := s.at_ + 1 } 8 = { s with at_ := s.at_ + 1, err := 8 } := if_pos he
        rw [hf]
        refine ⟨?_, ⟨hlt⟩, rfl⟩
        rw [Rd.rest_bad (s := { s with at_ := s.at_ + 1, err := 8 }) (by simp)]
      · rw [if_neg hbad, if_neg hbad]
        by_cases hl : x < 128
        · rw [if_pos hl, if_pos hl]
          exact ⟨by rw [hs1]; simp [he], hg1, rfl⟩
        · rw [if_neg hl, if_neg hl]
          have hk9 : k < 9 := by
            rcases Nat.lt_or_ge k 9 with h | h
            · exact h
            · exact absurd (Or.inl ⟨by omega, by omega⟩) hbad
          have := goL_rd f (k + 1) (n + x % 128 * 2 ^ (7 * k)) { s with at_ := s.at_ + 1 } (by omega) (by omega) he hg1
          rw [hs1] at this
          exact this
    · have hb : s.byte = (0, { s with err := 6 }) := by unfold Rd.byte; rw [if_pos he, if_neg hlt]
      have hr : s.b.drop s.at_ = [] := List.drop_of_length_le (by omega)
      rw [Rd.rest_ok he, hr]
      unfold Rd.numGo
      rw [hb]
      simp only
      rw [if_pos (by simp)]
      exact ⟨by rw [Rd.rest_bad (s := { s with err := 6 }) (by simp)]; rfl, ⟨hg.le⟩, rfl⟩
theorem numL_rd {s : Rd} (hg : s.Good) (m : Nat) : numL m s.rest s.err = ((s.num m).1, (s.num m).2.rest, (s.num m).2.err) ∧ (s.num m).2.Good ∧ (s.num m).2.b = s.b := by
  unfold numL
  by_cases he : s.err = 0
  · obtain ⟨h1, h2, h3⟩ := goL_rd 10 0 0 s rfl (by omega) he hg
    rw [if_neg (fun h => h he), h1]
    simp only
    by_cases h4 : (Rd.numGo 10 0 0 s).2.err = 0
    · rw [if_neg (fun h => h h4)]
      have e2 : s.num m = if m < (Rd.numGo 10 0 0 s).1 then (0, (Rd.numGo 10 0 0 s).2.fail 2) else Rd.numGo 10 0 0 s := by
        unfold Rd.num; exact if_neg (fun h => h h4)
      rw [e2]
      by_cases h5 : m < (Rd.numGo 10 0 0 s).1
      · rw [if_pos h5, if_pos h5]
        have hf : (Rd.numGo 10 0 0 s).2.fail 2 = { (Rd.numGo 10 0 0 s).2 with err := 2 } := if_pos h4
        rw [hf]
        exact ⟨by rw [Rd.rest_bad (s := { (Rd.numGo 10 0 0 s).2 with err := 2 }) (by simp)], ⟨h2.le⟩, h3⟩
      · rw [if_neg h5, if_neg h5]; exact ⟨rfl, h2, h3⟩
    · have e2 : s.num m = (0, (Rd.numGo 10 0 0 s).2) := by unfold Rd.num; exact if_pos h4
      rw [if_pos h4, e2]
      exact ⟨by rw [Rd.rest_bad h4], h2, h3⟩
  · rw [if_pos he]
    have hn : s.num m = (0, s) := by
      have h : Rd.numGo 10 0 0 s = (0, s) := by
        unfold Rd.numGo
        have hb : s.byte = (0, s) := if_neg he
        rw [hb, if_pos he]
      unfold Rd.num
      rw [h, if_pos he]
    rw [hn]
    exact ⟨by rw [Rd.rest_bad he], hg, rfl⟩
theorem numV_rd {s : Rd} (hg : s.Good) (m : Nat) : numV (numL m s.rest s.err) = .tuple #[.int .u64 (s.num m).1, stV (s.num m).2.rest (s.num m).2.err] := by
  rw [(numL_rd hg m).1]; rfl
theorem low_eq (s : Rd) : lowL (s.takeL 4).1 = low4 (s.takeL 4).1 := by
  have h : (s.takeL 4).1.length = 4 ∨ (s.takeL 4).1 = [] := by
    unfold Rd.takeL
    split
    · split
      · left; simp; omega
      · right; rfl
    · right; rfl
  rcases h with h | h
  · match hl : (s.takeL 4).1, h with
    | [a, b, c, d], _ => simp only [lowL, low4]; omega
  · rw [h]; rfl
end Go.Proofs.Ytdaiondcaecklaa
