/- Who is due, plain: below one that is not due nobody is. -/
import Derived.Test.YtnbdcdeidhhgoaaDoorHPlain2
namespace Go.Proofs.YtnbdcdeidhhgoaaDoor
set_option maxRecDepth 4000
set_option linter.unusedVariables false
set_option linter.unusedSimpArgs false
open Go
def isDue (xs : List It) (now : Int) (i : Nat) : Bool := decide (i < xs.length) && decide ((gt xs i).due ≤ now)
def subI (xs : List It) (now : Int) (i : Nat) : List Nat :=
  if h : isDue xs now i = true then i :: (subI xs now (2 * i + 1) ++ subI xs now (2 * i + 2)) else []
termination_by xs.length - i
decreasing_by
  all_goals
    unfold isDue at h
    simp at h
    omega
theorem isDue_lt {xs : List It} {now : Int} {i : Nat} (h : isDue xs now i = true) : i < xs.length := by unfold isDue at h; simp at h; exact h.1
theorem subI_yes {xs : List It} {now : Int} {i : Nat} (h : isDue xs now i = true) : subI xs now i = i :: (subI xs now (2 * i + 1) ++ subI xs now (2 * i + 2)) := by rw [subI, dif_pos h]
theorem subI_no {xs : List It} {now : Int} {i : Nat} (h : ¬ isDue xs now i = true) : subI xs now i = [] := by rw [subI, dif_neg h]
/-- one is somebody's below -/
def up_ (j : Nat) : Nat := (j - 1) / 2
def ups : Nat → Nat → Nat
  | 0, j => j
  | k + 1, j => up_ (ups k j)
theorem ups_succ (k j : Nat) : ups (k + 1) j = ups k (up_ j) := by
  induction k with
  | zero => rfl
  | succ k ih => show up_ (ups (k + 1) j) = up_ (ups k (up_ j)); rw [ih]
theorem up_le (j : Nat) : up_ j ≤ j := by unfold up_; omega
theorem ups_le (k j : Nat) : ups k j ≤ j := by
  induction k with
  | zero => exact Nat.le_refl _
  | succ k ih => exact Nat.le_trans (up_le _) ih
theorem ups_add (a b j : Nat) : ups (a + b) j = ups a (ups b j) := by
  induction a with
  | zero => rw [Nat.zero_add]; rfl
  | succ a ih => rw [Nat.succ_add]; show up_ (ups (a + b) j) = up_ (ups a (ups b j)); rw [ih]
theorem up_lt {j : Nat} (h : 0 < j) : up_ j < j := by unfold up_; omega
theorem sub_ups {xs : List It} {now : Int} : ∀ (d i : Nat), xs.length - i = d → ∀ j ∈ subI xs now i, ∃ k, ups k j = i := by
  intro d
  induction d using Nat.strongRecOn with
  | _ d ih =>
    intro i hd j hj
    by_cases h : isDue xs now i = true
    · have hl := isDue_lt h
      rw [subI_yes h] at hj
      rcases List.mem_cons.1 hj with rfl | hj
      · exact ⟨0, rfl⟩
      · rcases List.mem_append.1 hj with hj | hj
        · obtain ⟨k, hk⟩ := ih _ (by omega) (2 * i + 1) rfl j hj
          exact ⟨k + 1, by show up_ (ups k j) = i; rw [hk]; unfold up_; omega⟩
        · obtain ⟨k, hk⟩ := ih _ (by omega) (2 * i + 2) rfl j hj
          exact ⟨k + 1, by show up_ (ups k j) = i; rw [hk]; unfold up_; omega⟩
    · rw [subI_no h] at hj; cases hj
theorem ups_two {j a b i : Nat} (h1 : ups a j = 2 * i + 1) (h2 : ups b j = 2 * i + 2) : False := by
  rcases Nat.lt_trichotomy a b with h | h | h
  · have : ups (b - a) (ups a j) = 2 * i + 2 := by rw [← ups_add, show b - a + a = b by omega]; exact h2
    have h3 := ups_le (b - a) (ups a j)
    omega
  · subst h; omega
  · have : ups (a - b) (ups b j) = 2 * i + 1 := by rw [← ups_add, show a - b + b = a by omega]; exact h1
    rw [h2] at this
    obtain ⟨k, hk⟩ : ∃ k, a - b = k + 1 := ⟨a - b - 1, by omega⟩
    rw [hk, ups_succ] at this
    have h3 := ups_le k (up_ (2 * i + 2))
    have h4 : up_ (2 * i + 2) = i := by unfold up_; omega
    omega
theorem sub_nodup {xs : List It} {now : Int} : ∀ (d i : Nat), xs.length - i = d → (subI xs now i).Nodup := by
  intro d
  induction d using Nat.strongRecOn with
  | _ d ih =>
    intro i hd
    by_cases h : isDue xs now i = true
    · have hl := isDue_lt h
      rw [subI_yes h, List.nodup_cons, List.nodup_append]
      refine ⟨fun hm => ?_, ih _ (by omega) _ rfl, ih _ (by omega) _ rfl, fun a ha b hb e => ?_⟩
      · rcases List.mem_append.1 hm with hm | hm
        · obtain ⟨k, hk⟩ := sub_ups _ _ rfl i hm
          have := ups_le k i; omega
        · obtain ⟨k, hk⟩ := sub_ups _ _ rfl i hm
          have := ups_le k i; omega
      · subst e
        obtain ⟨k, hk⟩ := sub_ups _ _ rfl a ha
        obtain ⟨l, hl⟩ := sub_ups _ _ rfl a hb
        exact ups_two hk hl
    · rw [subI_no h]; exact List.nodup_nil
theorem sub_mem {xs : List It} {now : Int} : ∀ (d i : Nat), xs.length - i = d → ∀ j ∈ subI xs now i, isDue xs now j = true := by
  intro d
  induction d using Nat.strongRecOn with
  | _ d ih =>
    intro i hd j hj
    by_cases h : isDue xs now i = true
    · have hl := isDue_lt h
      rw [subI_yes h] at hj
      rcases List.mem_cons.1 hj with rfl | hj
      · exact h
      · rcases List.mem_append.1 hj with hj | hj
        · exact ih _ (by omega) _ rfl j hj
        · exact ih _ (by omega) _ rfl j hj
    · rw [subI_no h] at hj; cases hj
/-- who is below i and due is among i's -/
theorem sub_kid {xs : List It} {now : Int} {i : Nat} : ∀ (d p : Nat), xs.length - p = d → ∀ j, i ∈ subI xs now p → up_ j = i → 0 < j → isDue xs now j = true → j ∈ subI xs now p := by
  intro d
  induction d using Nat.strongRecOn with
  | _ d ih =>
    intro p hd j hi hji h0 hj
    by_cases h : isDue xs now p = true
    · have hl := isDue_lt h
      rw [subI_yes h] at hi ⊢
      rcases List.mem_cons.1 hi with e | hi
      · have : j = 2 * p + 1 ∨ j = 2 * p + 2 := by unfold up_ at hji; omega
        rcases this with rfl | rfl
        · refine List.mem_cons_of_mem _ (List.mem_append_left _ ?_)
          rw [subI_yes hj]; exact List.mem_cons_self
        · refine List.mem_cons_of_mem _ (List.mem_append_right _ ?_)
          rw [subI_yes hj]; exact List.mem_cons_self
      · rcases List.mem_append.1 hi with hi | hi
        · exact List.mem_cons_of_mem _ (List.mem_append_left _ (ih _ (by omega) _ rfl j hi hji h0 hj))
        · exact List.mem_cons_of_mem _ (List.mem_append_right _ (ih _ (by omega) _ rfl j hi hji h0 hj))
    · rw [subI_no h] at hi; cases hi
theorem sub_all {xs : List It} {now : Int} (hh : Heap xs) : ∀ j, isDue xs now j = true → j ∈ subI xs now 0 := by
  intro j
  induction j using Nat.strongRecOn with
  | _ j ih =>
    intro hj
    rcases Nat.eq_zero_or_pos j with e | e
    · subst e
      rw [subI_yes hj]; exact List.mem_cons_self
    · have hl := isDue_lt hj
      have hp : isDue xs now (up_ j) = true := by
        have h1 := hh j e hl
        rw [le_iff] at h1
        unfold isDue at hj ⊢
        have hu := up_lt e
        simp at hj ⊢
        unfold up_ at hu ⊢
        exact ⟨by omega, by omega⟩
      exact sub_kid _ 0 rfl j (ih _ (up_lt e) hp) rfl e hj
theorem map_gt (xs : List It) : (List.range xs.length).map (gt xs) = xs := by
  apply List.ext_getElem
  · simp
  · intro i h1 h2
    rw [List.getElem_map, List.getElem_range, gt_lt xs h2]
theorem sub_perm {xs : List It} {now : Int} (hh : Heap xs) : ((subI xs now 0).map (gt xs)).Perm (xs.filter fun t => decide (t.due ≤ now)) := by
  have h1 : (subI xs now 0).Perm ((List.range xs.length).filter (isDue xs now)) := by
    refine (List.perm_ext_iff_of_nodup (sub_nodup _ 0 rfl) ((List.filter_sublist).nodup List.nodup_range)).2 fun j => ⟨fun hj => ?_, fun hj => ?_⟩
    · have := sub_mem _ 0 rfl j hj
      exact List.mem_filter.2 ⟨List.mem_range.2 (isDue_lt this), this⟩
    · exact sub_all hh j (List.mem_filter.1 hj).2
  refine (h1.map (gt xs)).trans ?_
  have h2 : ((List.range xs.length).filter (isDue xs now)) = (List.range xs.length).filter ((fun t : It => decide (t.due ≤ now)) ∘ gt xs) := by
    apply List.filter_congr
    intro j hj
    have := List.mem_range.1 hj
    unfold isDue
    simp [this]
  rw [h2, ← List.filter_map, map_gt]
theorem sub_len {xs : List It} {now : Int} (hh : Heap xs) : (subI xs now 0).length ≤ xs.length := by
  have h := (sub_perm (now := now) hh).length_eq
  rw [List.length_map] at h
  rw [h]
  exact List.length_filter_le _ _
end Go.Proofs.YtnbdcdeidhhgoaaDoor
