/- A heap, plain: a thing is taken out of it, or put into it. -/
import Derived.Test.YtnbdcdeidhhgoaaDoorHPlain
namespace Go.Proofs.YtnbdcdeidhhgoaaDoor
set_option maxRecDepth 4000
set_option linter.unusedVariables false
set_option linter.unusedSimpArgs false
open Go
def takeU (xs : List It) (m : HK → Option Nat) (i : Nat) : List It × (HK → Option Nat) :=
  upS ((xs.take (xs.length - 1)).set i (gt xs (xs.length - 1))) (updM (delM m (gt xs i).key) (gt xs (xs.length - 1)).key i) (gt xs (xs.length - 1)) i
def takeJ (xs : List It) (m : HK → Option Nat) (i : Nat) : Nat := ((takeU xs m i).2 (gt xs (xs.length - 1)).key).getD 0
def takeS (xs : List It) (m : HK → Option Nat) (i : Nat) : List It × (HK → Option Nat) :=
  if i < xs.length - 1 then downS (takeU xs m i).1 (takeU xs m i).2 (gt (takeU xs m i).1 (takeJ xs m i)) (takeJ xs m i)
  else (xs.take (xs.length - 1), delM m (gt xs i).key)
theorem Pos.inj {xs : List It} {m : HK → Option Nat} (h : Pos xs m) {a b : Nat} (ha : a < xs.length) (hb : b < xs.length) (e : (gt xs a).key = (gt xs b).key) : a = b := by
  have h1 := h.at_ a ha
  rw [e, h.at_ b hb] at h1
  injection h1 with h1
  exact h1.symm
theorem gt_take (xs : List It) {n j : Nat} (h : j < n) : gt (xs.take n) j = gt xs j := by
  unfold gt
  rw [List.getD_eq_getElem?_getD, List.getD_eq_getElem?_getD, List.getElem?_take, if_pos h]
theorem set_self (xs : List It) (i : Nat) (h : i < xs.length) : xs.set i (gt xs i) = xs := by
  rw [gt_lt xs h]; exact List.set_getElem_self h
theorem last_perm (xs : List It) (h : 0 < xs.length) : (gt xs (xs.length - 1) :: xs.take (xs.length - 1)).Perm xs := by
  have h1 : xs.take (xs.length - 1) ++ [gt xs (xs.length - 1)] = xs := by
    rw [gt_lt xs (by omega)]
    have := List.take_append_drop (xs.length - 1) xs
    rw [List.drop_eq_getElem_cons (by omega), List.drop_eq_nil_of_le (by omega)] at this
    exact this
  have h2 : (gt xs (xs.length - 1) :: xs.take (xs.length - 1)).Perm (xs.take (xs.length - 1) ++ [gt xs (xs.length - 1)]) := (List.perm_append_comm (l₁ := [_]) (l₂ := _))
  rw [h1] at h2
  exact h2
theorem Pos.posX {xs : List It} {m : HK → Option Nat} (h : Pos xs m) {j : Nat} (hj : j < xs.length) : PosX xs m (gt xs j) j :=
  ⟨fun a ha _ => h.at_ a ha, fun k a hk => by
    obtain ⟨h1, h2⟩ := h.only k a hk
    by_cases e : a = j
    · subst e; exact Or.inl h2.symm
    · exact Or.inr ⟨h1, e, h2⟩, fun a ha hne e => hne (h.inj ha hj e)⟩
theorem take_posX {xs : List It} {m : HK → Option Nat} (h : Pos xs m) {i : Nat} (hi : i < xs.length - 1) :
    PosX ((xs.take (xs.length - 1)).set i (gt xs (xs.length - 1))) (updM (delM m (gt xs i).key) (gt xs (xs.length - 1)).key i) (gt xs (xs.length - 1)) i := by
  have hl : (xs.take (xs.length - 1)).length = xs.length - 1 := by rw [List.length_take]; omega
  refine ⟨fun j hj hji => ?_, fun k j hk => ?_, fun j hj hji => ?_⟩
  · rw [List.length_set, hl] at hj
    rw [gt_set _ _ _ _ (by omega), if_neg (Ne.symm hji), gt_take xs hj]
    unfold updM delM
    rw [if_neg (fun e => by have := h.inj (by omega) (by omega) e; omega), if_neg (fun e => hji (h.inj (by omega) (by omega) e))]
    exact h.at_ j (by omega)
  · unfold updM delM at hk
    by_cases e : k = (gt xs (xs.length - 1)).key
    · exact Or.inl e
    · rw [if_neg e] at hk
      by_cases e2 : k = (gt xs i).key
      · rw [if_pos e2] at hk; cases hk
      · rw [if_neg e2] at hk
        obtain ⟨h1, h2⟩ := h.only k j hk
        have hjn : j ≠ xs.length - 1 := fun e3 => e (by rw [← h2, e3])
        have hji : j ≠ i := fun e3 => e2 (by rw [← h2, e3])
        refine Or.inr ⟨by rw [List.length_set, hl]; omega, hji, ?_⟩
        rw [gt_set _ _ _ _ (by omega), if_neg (Ne.symm hji), gt_take xs (by omega)]
        exact h2
  · rw [List.length_set, hl] at hj
    rw [gt_set _ _ _ _ (by omega), if_neg (Ne.symm hji), gt_take xs hj]
    intro e
    have := h.inj (by omega) (by omega) e
    omega
theorem takeU_done {xs : List It} {m : HK → Option Nat} (h : Pos xs m) {i : Nat} (hi : i < xs.length - 1) :
    (takeU xs m i).1.Perm ((xs.take (xs.length - 1)).set i (gt xs (xs.length - 1))) ∧ Pos (takeU xs m i).1 (takeU xs m i).2 ∧ takeJ xs m i < (takeU xs m i).1.length ∧ gt (takeU xs m i).1 (takeJ xs m i) = gt xs (xs.length - 1) := by
  have hl : (xs.take (xs.length - 1)).length = xs.length - 1 := by rw [List.length_take]; omega
  obtain ⟨d1, d2, j, d3, d4, d5, d6⟩ := up_done (gt xs (xs.length - 1)) i _ _ (by rw [List.length_set]; omega) (take_posX h hi)
  have hj : takeJ xs m i = j := by
    show ((takeU xs m i).2 (gt xs (xs.length - 1)).key).getD 0 = j
    have e : (takeU xs m i).2 (gt xs (xs.length - 1)).key = some j := d5
    rw [e]; rfl
  rw [hj]
  refine ⟨?_, d2, d4, d6⟩
  rw [List.set_set] at d1
  exact d1
structure Took (R : List It × (HK → Option Nat)) (xs : List It) (i : Nat) : Prop where
  perm : (gt xs i :: R.1).Perm xs
  pos : Pos R.1 R.2
  heap : Heap R.1
theorem take_done {xs : List It} {m : HK → Option Nat} (h : Pos xs m) (hh : Heap xs) {i : Nat} (hi : i < xs.length) : Took (takeS xs m i) xs i := by
  have hl : (xs.take (xs.length - 1)).length = xs.length - 1 := by rw [List.length_take]; omega
  unfold takeS
  by_cases hin : i < xs.length - 1
  · rw [if_pos hin]
    obtain ⟨u1, u2, u3, u4⟩ := takeU_done h hin
    have hUl : (takeU xs m i).1.length = xs.length - 1 := by rw [u1.length_eq, List.length_set, hl]
    obtain ⟨d1, d2⟩ := down_done (gt (takeU xs m i).1 (takeJ xs m i)) _ (takeJ xs m i) _ _ rfl u3 (u2.posX u3)
    rw [set_self _ _ u3] at d1
    refine ⟨?_, d2, ?_⟩
    · have h1 := set_perm (gt xs (xs.length - 1)) (xs.take (xs.length - 1)) i (by omega)
      rw [gt_take xs hin] at h1
      exact ((d1.trans u1).cons _).trans (h1.trans (last_perm xs (by omega)))
    · refine down_heap _ _ _ _ _ rfl u3 ?_
      -- the list ahead of the way up
      have g1 : ∀ j, j < xs.length - 1 → j ≠ i → gt ((xs.take (xs.length - 1)).set i (gt xs (xs.length - 1))) j = gt xs j := fun j hj hji => by
        rw [gt_set _ _ _ _ (by omega), if_neg (Ne.symm hji), gt_take xs hj]
      have far : ∀ j, 0 < j → j < xs.length - 1 → j ≠ i → (j - 1) / 2 ≠ i → le_ (gt ((xs.take (xs.length - 1)).set i (gt xs (xs.length - 1))) ((j - 1) / 2)) (gt ((xs.take (xs.length - 1)).set i (gt xs (xs.length - 1))) j) := fun j j0 hj hji hpi => by
        rw [g1 j hj hji, g1 _ (by omega) hpi]
        exact hh j j0 (by omega)
      have over : 0 < i → ∀ j, 0 < j → j < xs.length - 1 → (j - 1) / 2 = i → le_ (gt ((xs.take (xs.length - 1)).set i (gt xs (xs.length - 1))) ((i - 1) / 2)) (gt ((xs.take (xs.length - 1)).set i (gt xs (xs.length - 1))) j) := fun i0 j j0 hj hji => by
        rw [g1 j hj (by omega), g1 _ (by omega) (by omega)]
        have h1 := hh i i0 (by omega)
        have h2 := hh j j0 (by omega)
        rw [hji] at h2
        exact le_trans_ h1 h2
      by_cases hs : 0 < i → le_ (gt ((xs.take (xs.length - 1)).set i (gt xs (xs.length - 1))) ((i - 1) / 2)) (gt xs (xs.length - 1))
      · have hU : takeU xs m i = ((xs.take (xs.length - 1)).set i (gt xs (xs.length - 1)), updM (updM (delM m (gt xs i).key) (gt xs (xs.length - 1)).key i) (gt xs (xs.length - 1)).key i) := by
          unfold takeU
          rw [up_stop hs, List.set_set]
        have hJ : takeJ xs m i = i := by
          unfold takeJ
          rw [hU]
          show (updM (updM (delM m (gt xs i).key) (gt xs (xs.length - 1)).key i) (gt xs (xs.length - 1)).key i (gt xs (xs.length - 1)).key).getD 0 = i
          unfold updM
          rw [if_pos rfl]; rfl
        rw [u4, hJ, hU]
        refine ⟨fun j j0 hj hji hpi => ?_, hs, fun i0 j j0 hj hji => ?_⟩
        · rw [List.length_set, hl] at hj
          exact far j j0 hj hji hpi
        · rw [List.length_set, hl] at hj
          exact over i0 j j0 hj hji
      · have i0 : 0 < i := by
          rcases Nat.eq_zero_or_pos i with e | e
          · exact absurd (fun h => by omega) hs
          · exact e
        have hx : ¬ le_ (gt ((xs.take (xs.length - 1)).set i (gt xs (xs.length - 1))) ((i - 1) / 2)) (gt xs (xs.length - 1)) := fun e => hs fun _ => e
        have hU : Heap (takeU xs m i).1 := by
          refine up_heap _ _ _ _ (by rw [List.length_set]; omega) ⟨fun j j0 hj hji hpi => ?_, fun j j0 hj hji => ?_, fun i0 j j0 hj hji => ?_⟩
          · rw [List.length_set, hl] at hj
            exact far j j0 hj hji hpi
          · rw [List.length_set, hl] at hj
            exact le_trans_ (le_total_ hx) (over i0 j j0 hj hji)
          · rw [List.length_set, hl] at hj
            exact over i0 j j0 hj hji
        refine ⟨fun j j0 hj _ _ => hU j j0 hj, fun j0 => hU _ j0 u3, fun j0 j k0 hj hji => ?_⟩
        have h1 := hU _ j0 u3
        have h2 := hU j k0 hj
        rw [hji] at h2
        exact le_trans_ h1 h2
  · rw [if_neg hin]
    have hie : i = xs.length - 1 := by omega
    refine ⟨by rw [hie]; exact last_perm xs (by omega), ⟨fun j hj => ?_, fun k j hk => ?_⟩, fun j j0 hj => ?_⟩
    · rw [hl] at hj
      rw [gt_take xs hj]
      show delM m (gt xs i).key (gt xs j).key = some j
      unfold delM
      rw [if_neg (fun e => by have := h.inj (by omega) (by omega) e; omega)]
      exact h.at_ j (by omega)
    · have hk' : delM m (gt xs i).key k = some j := hk
      unfold delM at hk'
      by_cases e : k = (gt xs i).key
      · rw [if_pos e] at hk'; cases hk'
      · rw [if_neg e] at hk'
        obtain ⟨h1, h2⟩ := h.only k j hk'
        have hjn : j ≠ i := fun e3 => e (by rw [← h2, e3])
        refine ⟨by rw [hl]; omega, ?_⟩
        rw [gt_take xs (by omega)]
        exact h2
    · rw [hl] at hj
      rw [gt_take xs hj, gt_take xs (by omega)]
      exact hh j j0 (by omega)
/-- a new one behind the others, and up -/
theorem put_done {xs : List It} {m : HK → Option Nat} (h : Pos xs m) (hh : Heap xs) (x : It) (hx : m x.key = none) :
    (upS (xs ++ [x]) m x xs.length).1.Perm (xs ++ [x]) ∧ Pos (upS (xs ++ [x]) m x xs.length).1 (upS (xs ++ [x]) m x xs.length).2 ∧ Heap (upS (xs ++ [x]) m x xs.length).1 := by
  have hl : xs.length < (xs ++ [x]).length := by simp
  have g1 : ∀ j, j < xs.length → gt (xs ++ [x]) j = gt xs j := fun j hj => by
    unfold gt
    rw [List.getD_eq_getElem?_getD, List.getD_eq_getElem?_getD, List.getElem?_append_left hj]
  have g2 : gt (xs ++ [x]) xs.length = x := by
    unfold gt
    rw [List.getD_eq_getElem?_getD, List.getElem?_append_right (Nat.le_refl _), Nat.sub_self]; rfl
  have hP : PosX (xs ++ [x]) m x xs.length := by
    refine ⟨fun j hj hne => ?_, fun k j hk => ?_, fun j hj hne => ?_⟩
    · rw [List.length_append] at hj
      have hj2 : j < xs.length := by simp at hj; omega
      rw [g1 j hj2]; exact h.at_ j hj2
    · obtain ⟨h1, h2⟩ := h.only k j hk
      exact Or.inr ⟨by omega, by omega, by rw [g1 j h1]; exact h2⟩
    · rw [List.length_append] at hj
      have hj2 : j < xs.length := by simp at hj; omega
      rw [g1 j hj2]
      intro e
      have := h.at_ j hj2
      rw [e, hx] at this
      cases this
  obtain ⟨d1, d2, _⟩ := up_done x _ _ _ hl hP
  refine ⟨?_, d2, up_heap x _ _ _ hl ⟨fun j j0 hj hne hpne => ?_, fun j j0 hj hp => ?_, fun _ j j0 hj hp => ?_⟩⟩
  · have e : (xs ++ [x]).set xs.length x = xs ++ [x] := by
      have := set_self (xs ++ [x]) xs.length hl
      rw [g2] at this; exact this
    rw [e] at d1; exact d1
  · rw [List.length_append] at hj
    have hj2 : j < xs.length := by simp at hj; omega
    rw [g1 j hj2, g1 _ (by omega)]
    exact hh j j0 hj2
  · simp at hj; omega
  · simp at hj; omega
theorem empty_pos : Pos [] (fun _ => none) := ⟨fun j hj => by simp at hj, fun k j hk => by cases hk⟩
theorem empty_heap : Heap [] := fun j _ hj => by simp at hj
/-- what is said of all is said of those that came of it -/
theorem Ok_perm {xs ys : List It} (h : xs.Perm ys) (ho : ∀ t ∈ ys, t.Ok) : ∀ t ∈ xs, t.Ok := fun t ht => ho t (h.mem_iff.1 ht)
end Go.Proofs.YtnbdcdeidhhgoaaDoor
