/- The plain law of MatchingMany. -/
import Derived.Test.YtfbolgdecdfnaaaBrings
namespace Go.Proofs.Ytfbolgdecdfnaaa
set_option maxRecDepth 4000
set_option linter.unusedVariables false
set_option linter.unusedSimpArgs false
open Go Go.RowKit Go.Maps Go.ChangeMaps Go.MapKept
def Lj (j : Nat) : Ls := ⟨j + 1, j, 2, 0, 1 + (j : Int) % 3, 20⟩
def Lr (a n : Nat) : List Ls := (List.range' a n).map Lj
theorem Lr_length (a n : Nat) : (Lr a n).length = n := by simp [Lr]
theorem Lr_succ (a n : Nat) : Lr a (n + 1) = Lj a :: Lr (a + 1) n := by simp [Lr, List.range'_succ]
theorem Lr_snoc (n : Nat) : Lr 0 (n + 1) = Lr 0 n ++ [Lj n] := by
  unfold Lr
  rw [List.range'_concat, List.map_append]; simp
theorem Lr_mem {a n : Nat} {l : Ls} (h : l ∈ Lr a n) : ∃ j, a ≤ j ∧ j < a + n ∧ l = Lj j := by
  unfold Lr at h
  obtain ⟨j, hj, rfl⟩ := List.mem_map.1 h
  rw [List.mem_range'_1] at hj
  exact ⟨j, hj.1, hj.2, rfl⟩
theorem keep_Lr (a n : Nat) : keepL (fun l => l.tok == ((a : Int) + 1)) (Lr a (n + 1)) = Lr (a + 1) n := by
  rw [Lr_succ]
  unfold keepL
  rw [List.filter_cons, if_neg (by simp [Lj])]
  rw [List.filter_eq_self]
  intro l hl
  obtain ⟨j, h1, h2, rfl⟩ := Lr_mem hl
  simp [Lj]; omega
theorem waitQ_setq (s : MS) (k : Nat) (xs : List It) : ∀ j, (waitQ (s.setq k xs) j).length + (if k ≤ j then (s.q k).length else 0) = (waitQ s j).length + (if k ≤ j then xs.length else 0)
  | 0 => by
    unfold waitQ MS.setq
    by_cases h : k = 0
    · subst h; simp; omega
    · rw [if_neg (by omega), if_neg (by omega)]
      simp [Ne.symm h]
  | j + 1 => by
    have ih := waitQ_setq s k xs j
    rw [waitQ, waitQ, List.length_append, List.length_append]
    by_cases h : k = j + 1
    · subst h
      rw [if_neg (by omega), if_neg (by omega)] at ih
      have : ((s.setq (j + 1) xs).q (j + 1)) = xs := by simp [MS.setq]
      rw [this]
      simp; omega
    · have : ((s.setq k xs).q (j + 1)) = s.q (j + 1) := by simp [MS.setq, Ne.symm h]
      rw [this]
      by_cases h2 : k ≤ j
      · rw [if_pos h2, if_pos h2] at ih
        rw [if_pos (by omega), if_pos (by omega)]
        omega
      · rw [if_neg h2, if_neg h2] at ih
        rw [if_neg (by omega), if_neg (by omega)]
        omega
theorem waitQ_ge (s : MS) : ∀ j k, k ≤ j → (s.q k).length ≤ (waitQ s j).length
  | 0, k, h => by
    have : k = 0 := by omega
    subst this; exact Nat.le_refl _
  | j + 1, k, h => by
    rw [waitQ, List.length_append]
    by_cases hk : k = j + 1
    · subst hk; omega
    · have := waitQ_ge s j k (by omega); omega
structure MI (s : MS) (i : Nat) : Prop where
  tok : s.tok = (min i 256 : Nat)
  ls : s.ls = Lr 0 (min i 256)
  run : ∀ k, k < 65 → ∀ x ∈ s.q k, x.run < i
  wl : (waitQ s 64).length = i - 256
theorem MI.zero : MI zeroMS 0 := ⟨rfl, rfl, fun k _ x hx => by simp [zeroMS] at hx, by decide +kernel⟩
section
variable {s : MS} {i : Nat} (h : MI s i)
include h
theorem MI.known : s.known i 2 0 = false := by
  unfold MS.known MS.had
  have h1 : s.where_ i 2 0 = none := range_find_none fun j hj => by
    rw [List.any_eq_false]
    intro x hx
    have := h.run j hj x hx
    simp [isK]; omega
  have h2 : s.ls.any (isL · i 2 0) = false := by
    rw [List.any_eq_false, h.ls]
    intro l hl
    obtain ⟨j, h1, h2, rfl⟩ := Lr_mem hl
    simp [isL, Lj]; omega
  rw [h1, h2]; rfl
theorem MI.qlen {k : Nat} (hk : k < 65) : (s.q k).length ≤ i - 256 := by
  have := waitQ_ge s 64 k (by omega)
  rw [h.wl] at this
  exact this
theorem MI.none {k : Nat} (hk : k < 65) : (s.q k).any (isK · i 2 0) = false := by
  rw [List.any_eq_false]
  intro x hx
  have := h.run k hk x hx
  simp [isK]; omega
theorem MI.addE (hi : i < 300) : maddE s i 2 0 (1 + (i : Int) % 3) = 0 := by
  have h1 := h.qlen (k := (1 + (i : Int) % 3).toNat) (by omega)
  rw [maddE, if_neg (by rw [h.known]; decide), if_neg (by omega), qaddE, if_neg (by rw [h.none (by omega)]; decide), if_neg (by omega)]
theorem MI.add (hi : i < 300) : madd s i 2 0 (1 + (i : Int) % 3) 0 = s.setq (1 + (i : Int) % 3).toNat (s.q (1 + (i : Int) % 3).toNat ++ [⟨i, 2, 0, 0⟩]) := by
  have h1 := h.qlen (k := (1 + (i : Int) % 3).toNat) (by omega)
  rw [madd, if_neg (by rw [h.known]; decide), if_neg (by omega), qadd, if_neg (by rw [h.none (by omega)]; decide), if_neg (by omega)]
theorem MI.more (hi : i < 300) (hi2 : 256 ≤ i) : pollE (madd s i 2 0 (1 + (i : Int) % 3) 0) (1 + (i : Int) % 3) 2 = 3 ∧ pollL (madd s i 2 0 (1 + (i : Int) % 3) 0) (1 + (i : Int) % 3) 2 0 = zeroL ∧ MI (pollS (madd s i 2 0 (1 + (i : Int) % 3) 0) (1 + (i : Int) % 3) 2 0) (i + 1) := by
  rw [h.add hi]
  obtain ⟨k, hk⟩ : ∃ k, (1 + (i : Int) % 3).toNat = k := ⟨_, rfl⟩
  have hk4 : k < 4 := by omega
  rw [hk]
  have hl : ¬ (s.setq k (s.q k ++ [⟨i, 2, 0, 0⟩])).ls.length < 256 := by
    show ¬ s.ls.length < 256
    rw [h.ls, Lr_length]; omega
  refine ⟨by rw [pollE, if_neg (by omega), if_pos (by omega)], by rw [pollL, if_neg (by omega), if_pos (by omega)], ?_⟩
  rw [pollS, if_neg (by omega), if_pos (by omega)]
  refine ⟨?_, ?_, fun j hj x hx => ?_, ?_⟩
  · show s.tok = _
    rw [h.tok]; omega
  · show s.ls = _
    rw [h.ls]; congr 1; omega
  · by_cases hjk : j = k
    · subst hjk
      simp only [MS.setq, if_true] at hx
      rcases List.mem_append.1 hx with hx | hx
      · have := h.run j hj x hx; omega
      · simp at hx; subst hx; show (i : Int) < _; omega
    · simp only [MS.setq, hjk, if_false] at hx
      have := h.run j hj x hx; omega
  · have := waitQ_setq s k (s.q k ++ [⟨i, 2, 0, 0⟩]) 64
    rw [if_pos (by omega), if_pos (by omega), h.wl, List.length_append] at this
    simp at this ⊢
    omega
theorem MI.less (hi2 : i < 256) : pollE (madd s i 2 0 (1 + (i : Int) % 3) 0) (1 + (i : Int) % 3) 2 = 0 ∧ MI (pollS (madd s i 2 0 (1 + (i : Int) % 3) 0) (1 + (i : Int) % 3) 2 0) (i + 1) := by
  have he : ∀ k, k < 65 → s.q k = [] := fun k hk => List.eq_nil_of_length_eq_zero (by have := h.qlen hk; omega)
  rw [h.add (by omega)]
  obtain ⟨k, hk⟩ : ∃ k, (1 + (i : Int) % 3).toNat = k := ⟨_, rfl⟩
  have hk4 : k < 4 := by omega
  rw [hk, he k (by omega), List.nil_append]
  have hl : ¬ 256 ≤ (s.setq k [⟨i, 2, 0, 0⟩]).ls.length := by
    show ¬ 256 ≤ s.ls.length
    rw [h.ls, Lr_length]; omega
  have hq : (s.setq k [⟨i, 2, 0, 0⟩]).q k = [⟨i, 2, 0, 0⟩] := by simp [MS.setq]
  have hp : (s.setq k [⟨i, 2, 0, 0⟩]).pick (1 + (i : Int) % 3) 2 = some (k, ⟨i, 2, 0, 0⟩) := by
    rw [MS.pick, hk, hq]; simp
  refine ⟨by rw [pollE, if_neg (by omega), if_neg hl, hp]; rfl, ?_⟩
  rw [pollS, if_neg (by omega), if_neg hl, hp]
  have hq2 : ∀ j, j < 65 → ((s.setq k [⟨i, 2, 0, 0⟩]).setq k []).q j = [] := fun j hj => by
    by_cases hjk : j = k
    · simp [MS.setq, hjk]
    · simp [MS.setq, hjk, he j hj]
  have ho : others ((s.setq k [⟨i, 2, 0, 0⟩]).q k) i 2 0 = [] := by rw [hq]; simp [others, isK]
  simp only
  rw [ho]
  refine ⟨?_, ?_, fun j hj x hx => ?_, ?_⟩
  · show s.tok + 1 = _
    rw [h.tok]; omega
  · show s.ls ++ [(⟨s.tok + 1, i, 2, 0, 1 + (i : Int) % 3, 0 + 20⟩ : Ls)] = _
    have e1 : min i 256 = i := by omega
    have e2 : min (i + 1) 256 = i + 1 := by omega
    rw [h.ls, h.tok, e1, e2, Lr_snoc]; rfl
  · have hx' : x ∈ ((s.setq k [⟨i, 2, 0, 0⟩]).setq k []).q j := hx
    rw [hq2 j hj] at hx'
    simp at hx'
  · have e : ∀ j, j < 65 → waitQ ((s.setq k [⟨i, 2, 0, 0⟩]).setq k []) j = [] := by
      intro j
      induction j with
      | zero => intro hj; rw [waitQ, hq2 0 hj]
      | succ j ih => intro hj; rw [waitQ, ih (by omega), hq2 (j + 1) hj]; rfl
    have e2 : ∀ j, waitQ { ((s.setq k [⟨i, 2, 0, 0⟩]).setq k []) with tok := (s.setq k [⟨i, 2, 0, 0⟩]).tok + 1, ls := (s.setq k [⟨i, 2, 0, 0⟩]).ls ++ [(⟨(s.setq k [⟨i, 2, 0, 0⟩]).tok + 1, i, 2, 0, 1 + (i : Int) % 3, 0 + 20⟩ : Ls)] } j = waitQ ((s.setq k [⟨i, 2, 0, 0⟩]).setq k []) j := by
      intro j
      induction j with
      | zero => rfl
      | succ j ih => rw [waitQ, waitQ, ih]
    rw [e2, e 64 (by omega)]
    simp; omega
end
end Go.Proofs.Ytfbolgdecdfnaaa
