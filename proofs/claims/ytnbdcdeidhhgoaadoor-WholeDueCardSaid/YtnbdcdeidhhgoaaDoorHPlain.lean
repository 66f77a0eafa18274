/- A heap, plain: what goes up or down comes to stand where it may; nothing is lost. -/
import Derived.Test.YtnbdcdeidhhgoaaDoorHDown
namespace Go.Proofs.YtnbdcdeidhhgoaaDoor
set_option maxRecDepth 4000
set_option linter.unusedVariables false
set_option linter.unusedSimpArgs false
open Go
deriving instance DecidableEq for It
def le_ (a b : It) : Prop := hcmp a b ≤ 0
theorem le_iff (a b : It) : le_ a b ↔ (a.due < b.due ∨ (a.due = b.due ∧ a.seq ≤ b.seq)) := by
  unfold le_ hcmp c3
  by_cases h1 : a.due < b.due
  · simp [h1]
  · by_cases h2 : b.due < a.due
    · simp [h1, h2]; omega
    · have h3 : a.due = b.due := by omega
      by_cases h4 : (a.seq : Int) < b.seq
      · simp [h3, h4]; omega
      · by_cases h5 : (b.seq : Int) < a.seq
        · simp [h3, h4, h5]; omega
        · simp [h3, h4, h5]; omega
theorem le_trans_ {a b c : It} (h1 : le_ a b) (h2 : le_ b c) : le_ a c := by rw [le_iff] at *; omega
theorem le_total_ {a b : It} (h : ¬ le_ a b) : le_ b a := by rw [le_iff] at *; omega
theorem le_refl_ (a : It) : le_ a a := by rw [le_iff]; omega
def gt (xs : List It) (j : Nat) : It := xs.getD j It.none_
theorem gt_set (xs : List It) (i j : Nat) (x : It) (hi : i < xs.length) : gt (xs.set i x) j = if i = j then x else gt xs j := by
  unfold gt
  rw [List.getD_eq_getElem?_getD, List.getD_eq_getElem?_getD, List.getElem?_set]
  by_cases h : i = j
  · subst h
    rw [if_pos rfl, if_pos hi, if_pos rfl]; rfl
  · rw [if_neg h, if_neg h]
theorem gt_lt (xs : List It) {j : Nat} (h : j < xs.length) : gt xs j = xs[j] := by
  unfold gt
  rw [List.getD_eq_getElem?_getD, List.getElem?_eq_getElem h]; rfl
theorem gt_mem (xs : List It) {j : Nat} (h : j < xs.length) : gt xs j ∈ xs := by rw [gt_lt xs h]; exact List.getElem_mem _
/-- nobody is earlier than who stands above -/
def Heap (xs : List It) : Prop := ∀ j, 0 < j → j < xs.length → le_ (gt xs ((j - 1) / 2)) (gt xs j)
/-- each is found where it stands, and nobody else is found -/
structure Pos (xs : List It) (m : HK → Option Nat) : Prop where
  at_ : ∀ j, j < xs.length → m (gt xs j).key = some j
  only : ∀ k j, m k = some j → j < xs.length ∧ (gt xs j).key = k
structure PosX (xs : List It) (m : HK → Option Nat) (x : It) (i : Nat) : Prop where
  at_ : ∀ j, j < xs.length → j ≠ i → m (gt xs j).key = some j
  only : ∀ k j, m k = some j → k = x.key ∨ (j < xs.length ∧ j ≠ i ∧ (gt xs j).key = k)
  ne : ∀ j, j < xs.length → j ≠ i → (gt xs j).key ≠ x.key
theorem PosX.end_ {xs : List It} {m : HK → Option Nat} {x : It} {i : Nat} (h : PosX xs m x i) (hi : i < xs.length) : Pos (xs.set i x) (updM m x.key i) := by
  refine ⟨fun j hj => ?_, fun k j hk => ?_⟩
  · rw [List.length_set] at hj
    rw [gt_set xs i j x hi]
    unfold updM
    by_cases e : i = j
    · subst e; rw [if_pos rfl, if_pos rfl]
    · rw [if_neg e, if_neg (h.ne j hj (Ne.symm e))]
      exact h.at_ j hj (Ne.symm e)
  · rw [List.length_set, gt_set xs i j x hi]
    unfold updM at hk
    by_cases e : k = x.key
    · rw [if_pos e] at hk
      injection hk with hk
      subst hk
      rw [if_pos rfl]
      exact ⟨hi, e.symm⟩
    · rw [if_neg e] at hk
      rcases h.only k j hk with h1 | ⟨h1, h2, h3⟩
      · exact absurd h1 e
      · rw [if_neg (Ne.symm h2)]; exact ⟨h1, h3⟩
theorem PosX.move {xs : List It} {m : HK → Option Nat} {x : It} {i p : Nat} (h : PosX xs m x i) (hi : i < xs.length) (hp : p < xs.length) (hpi : p ≠ i) : PosX (xs.set i (gt xs p)) (updM m (gt xs p).key i) x p := by
  have hinj : ∀ a b, a < xs.length → b < xs.length → a ≠ i → b ≠ i → (gt xs a).key = (gt xs b).key → a = b := fun a b ha hb hai hbi e => by
    have h1 := h.at_ a ha hai
    rw [e, h.at_ b hb hbi] at h1
    injection h1 with h1
    exact h1.symm
  refine ⟨fun j hj hjp => ?_, fun k j hk => ?_, fun j hj hjp => ?_⟩
  · rw [List.length_set] at hj
    rw [gt_set xs i j _ hi]
    unfold updM
    by_cases e : i = j
    · subst e; rw [if_pos rfl, if_pos rfl]
    · rw [if_neg e, if_neg (fun e2 => hjp (hinj j p hj hp (Ne.symm e) hpi e2))]
      exact h.at_ j hj (Ne.symm e)
  · rw [List.length_set, gt_set xs i j _ hi]
    unfold updM at hk
    by_cases e : k = (gt xs p).key
    · rw [if_pos e] at hk
      injection hk with hk
      subst hk
      rw [if_pos rfl]
      exact Or.inr ⟨hi, Ne.symm hpi, e.symm⟩
    · rw [if_neg e] at hk
      rcases h.only k j hk with h1 | ⟨h1, h2, h3⟩
      · exact Or.inl h1
      · rw [if_neg (Ne.symm h2)]
        exact Or.inr ⟨h1, fun e2 => e (by rw [← h3, e2]), h3⟩
  · rw [List.length_set] at hj
    rw [gt_set xs i j _ hi]
    by_cases e : i = j
    · rw [if_pos e]; exact h.ne p hp hpi
    · rw [if_neg e]; exact h.ne j hj (Ne.symm e)
theorem set_perm (x : It) : ∀ (xs : List It) (i : Nat), i < xs.length → (gt xs i :: xs.set i x).Perm (x :: xs)
  | [], i, h => by simp at h
  | y :: ys, 0, _ => List.Perm.swap _ _ _
  | y :: ys, i + 1, h => by
    have ih := set_perm x ys i (by simpa using h)
    show (gt ys i :: y :: ys.set i x).Perm (x :: y :: ys)
    exact (List.Perm.swap _ _ _).trans ((ih.cons y).trans (List.Perm.swap _ _ _))
theorem swap_perm (xs : List It) (x : It) {i p : Nat} (hi : i < xs.length) (hp : p < xs.length) (hpi : p ≠ i) : ((xs.set i (gt xs p)).set p x).Perm (xs.set i x) := by
  have h1 := set_perm x (xs.set i (gt xs p)) p (by rw [List.length_set]; exact hp)
  rw [gt_set xs i p _ hi, if_neg (Ne.symm hpi)] at h1
  have h2 := set_perm (gt xs p) xs i hi
  have h3 := set_perm x xs i hi
  have e1 : (gt xs i :: gt xs p :: (xs.set i (gt xs p)).set p x).Perm (gt xs i :: gt xs p :: xs.set i x) :=
    (h1.cons (gt xs i)).trans ((List.Perm.swap _ _ _).trans ((h2.cons x).trans ((List.Perm.swap _ _ _).trans ((h3.symm.cons (gt xs p)).trans (List.Perm.swap _ _ _)))))
  exact (e1.cons_inv).cons_inv
/-! ### up -/
structure UpX (xs : List It) (x : It) (i : Nat) : Prop where
  far : ∀ j, 0 < j → j < xs.length → j ≠ i → (j - 1) / 2 ≠ i → le_ (gt xs ((j - 1) / 2)) (gt xs j)
  kids : ∀ j, 0 < j → j < xs.length → (j - 1) / 2 = i → le_ x (gt xs j)
  over : 0 < i → ∀ j, 0 < j → j < xs.length → (j - 1) / 2 = i → le_ (gt xs ((i - 1) / 2)) (gt xs j)
theorem UpX.stop {xs : List It} {x : It} {i : Nat} (h : UpX xs x i) (hi : i < xs.length) (hx : 0 < i → le_ (gt xs ((i - 1) / 2)) x) : Heap (xs.set i x) := by
  intro j h0 hj
  rw [List.length_set] at hj
  rw [gt_set xs i _ x hi, gt_set xs i _ x hi]
  by_cases e1 : i = (j - 1) / 2
  · rw [if_pos e1, if_neg (by omega)]
    exact h.kids j h0 hj e1.symm
  · rw [if_neg e1]
    by_cases e2 : i = j
    · rw [if_pos e2]
      subst e2
      exact hx h0
    · rw [if_neg e2]
      exact h.far j h0 hj (Ne.symm e2) (Ne.symm e1)
theorem UpX.step {xs : List It} {x : It} {i : Nat} (h : UpX xs x i) (h0 : 0 < i) (hi : i < xs.length) (hx : ¬ le_ (gt xs ((i - 1) / 2)) x) : UpX (xs.set i (gt xs ((i - 1) / 2))) x ((i - 1) / 2) := by
  obtain ⟨p, hp⟩ : ∃ p, (i - 1) / 2 = p := ⟨_, rfl⟩
  rw [hp] at hx ⊢
  refine ⟨fun j j0 hj hjp hpp => ?_, fun j j0 hj hjp => ?_, fun p0 j j0 hj hjp => ?_⟩
  · rw [List.length_set] at hj
    rw [gt_set xs i _ _ hi, gt_set xs i _ _ hi]
    by_cases e1 : i = (j - 1) / 2
    · rw [if_pos e1, if_neg (by omega)]
      have := h.over h0 j j0 hj e1.symm
      rw [hp] at this; exact this
    · rw [if_neg e1]
      by_cases e2 : i = j
      · subst e2; exact absurd hp hpp
      · rw [if_neg e2]
        exact h.far j j0 hj (Ne.symm e2) (Ne.symm e1)
  · rw [List.length_set] at hj
    rw [gt_set xs i _ _ hi]
    by_cases e2 : i = j
    · rw [if_pos e2]; exact le_total_ hx
    · rw [if_neg e2]
      have h1 := h.far j j0 hj (Ne.symm e2) (by omega)
      rw [hjp] at h1
      exact le_trans_ (le_total_ hx) h1
  · rw [List.length_set] at hj
    rw [gt_set xs i _ _ hi, gt_set xs i _ _ hi, if_neg (by omega)]
    have h1 := h.far p p0 (by omega) (by omega) (by omega)
    by_cases e2 : i = j
    · rw [if_pos e2]; exact h1
    · rw [if_neg e2]
      have h2 := h.far j j0 hj (Ne.symm e2) (by omega)
      rw [hjp] at h2
      exact le_trans_ h1 h2
theorem up_stop {xs : List It} {m : HK → Option Nat} {x : It} {i : Nat} (h : 0 < i → le_ (gt xs ((i - 1) / 2)) x) : upS xs m x i = (xs.set i x, updM m x.key i) := by
  rw [upS]
  by_cases h0 : 0 < i
  · rw [dif_pos h0, if_pos (show hcmp (xs.getD ((i - 1) / 2) It.none_) x ≤ 0 from h h0)]
  · rw [dif_neg h0]
theorem up_go {xs : List It} {m : HK → Option Nat} {x : It} {i : Nat} (h0 : 0 < i) (h : ¬ le_ (gt xs ((i - 1) / 2)) x) : upS xs m x i = upS (xs.set i (gt xs ((i - 1) / 2))) (updM m (gt xs ((i - 1) / 2)).key i) x ((i - 1) / 2) := by
  rw [upS, dif_pos h0, if_neg (show ¬ hcmp (xs.getD ((i - 1) / 2) It.none_) x ≤ 0 from h)]
  rfl
structure Done (R : List It × (HK → Option Nat)) (zs : List It) (x : It) (i : Nat) : Prop where
  perm : R.1.Perm zs
  pos : Pos R.1 R.2
  found : ∃ j, j ≤ i ∧ j < R.1.length ∧ R.2 x.key = some j ∧ gt R.1 j = x
theorem up_done (x : It) : ∀ (i : Nat) (xs : List It) (m : HK → Option Nat), i < xs.length → PosX xs m x i → Done (upS xs m x i) (xs.set i x) x i := by
  intro i
  induction i using Nat.strongRecOn with
  | _ i ih =>
    intro xs m hi h
    by_cases hs : 0 < i → le_ (gt xs ((i - 1) / 2)) x
    · rw [up_stop hs]
      exact ⟨List.Perm.refl _, h.end_ hi, i, Nat.le_refl _, by rw [List.length_set]; exact hi, by show updM m x.key i x.key = some i; unfold updM; rw [if_pos rfl], by rw [gt_set xs i i x hi, if_pos rfl]⟩
    · have h0 : 0 < i := by
        rcases Nat.eq_zero_or_pos i with e | e
        · exact absurd (fun h => by omega) hs
        · exact e
      have hx : ¬ le_ (gt xs ((i - 1) / 2)) x := fun e => hs fun _ => e
      rw [up_go h0 hx]
      have hp : (i - 1) / 2 < i := by omega
      obtain ⟨d1, d2, j, d3, d4, d5, d6⟩ := ih _ hp (xs.set i (gt xs ((i - 1) / 2))) (updM m (gt xs ((i - 1) / 2)).key i) (by rw [List.length_set]; omega) (h.move hi (by omega) (by omega))
      exact ⟨d1.trans (swap_perm xs x hi (by omega) (by omega)), d2, j, by omega, d4, d5, d6⟩
theorem up_heap (x : It) : ∀ (i : Nat) (xs : List It) (m : HK → Option Nat), i < xs.length → UpX xs x i → Heap (upS xs m x i).1 := by
  intro i
  induction i using Nat.strongRecOn with
  | _ i ih =>
    intro xs m hi h
    by_cases hs : 0 < i → le_ (gt xs ((i - 1) / 2)) x
    · rw [up_stop hs]
      exact h.stop hi hs
    · have h0 : 0 < i := by
        rcases Nat.eq_zero_or_pos i with e | e
        · exact absurd (fun h => by omega) hs
        · exact e
      have hx : ¬ le_ (gt xs ((i - 1) / 2)) x := fun e => hs fun _ => e
      rw [up_go h0 hx]
      exact ih _ (by omega) _ _ (by rw [List.length_set]; omega) (h.step h0 hi hx)
/-! ### down -/
structure DnX (xs : List It) (x : It) (i : Nat) : Prop where
  far : ∀ j, 0 < j → j < xs.length → j ≠ i → (j - 1) / 2 ≠ i → le_ (gt xs ((j - 1) / 2)) (gt xs j)
  above : 0 < i → le_ (gt xs ((i - 1) / 2)) x
  over : 0 < i → ∀ j, 0 < j → j < xs.length → (j - 1) / 2 = i → le_ (gt xs ((i - 1) / 2)) (gt xs j)
theorem kid_least {xs : List It} {i : Nat} (j : Nat) (h0 : 0 < j) (hj : j < xs.length) (hp : (j - 1) / 2 = i) : le_ (gt xs (kidS xs i)) (gt xs j) := by
  unfold kidS
  by_cases h : 2 * i + 2 < xs.length ∧ hcmp (xs.getD (2 * i + 2) It.none_) (xs.getD (2 * i + 1) It.none_) < 0
  · rw [if_pos h]
    have h2 : le_ (gt xs (2 * i + 2)) (gt xs (2 * i + 1)) := by unfold le_ gt; omega
    rcases (show j = 2 * i + 1 ∨ j = 2 * i + 2 by omega) with rfl | rfl
    · exact h2
    · exact le_refl_ _
  · rw [if_neg h]
    rcases (show j = 2 * i + 1 ∨ j = 2 * i + 2 by omega) with rfl | rfl
    · exact le_refl_ _
    · by_cases e : le_ (gt xs (2 * i + 1)) (gt xs (2 * i + 2))
      · exact e
      · exfalso
        have h3 : ¬ hcmp (gt xs (2 * i + 2)) (gt xs (2 * i + 1)) < 0 := fun h' => h ⟨hj, h'⟩
        have h4 := e
        rw [le_iff] at h4
        apply h3
        unfold hcmp c3
        by_cases h5 : (gt xs (2 * i + 2)).due < (gt xs (2 * i + 1)).due
        · simp [h5]
        · have h6 : (gt xs (2 * i + 2)).due = (gt xs (2 * i + 1)).due := by omega
          have h7 : ((gt xs (2 * i + 2)).seq : Int) < (gt xs (2 * i + 1)).seq := by omega
          simp [h6, h7]
theorem kid_par (xs : List It) (i : Nat) : (kidS xs i - 1) / 2 = i := by unfold kidS; split <;> omega
theorem DnX.stop {xs : List It} {x : It} {i : Nat} (h : DnX xs x i) (hi : i < xs.length) (hx : 2 * i + 1 < xs.length → le_ x (gt xs (kidS xs i))) : Heap (xs.set i x) := by
  intro j h0 hj
  rw [List.length_set] at hj
  rw [gt_set xs i _ x hi, gt_set xs i _ x hi]
  by_cases e1 : i = (j - 1) / 2
  · rw [if_pos e1, if_neg (by omega)]
    exact le_trans_ (hx (by omega)) (kid_least j h0 hj e1.symm)
  · rw [if_neg e1]
    by_cases e2 : i = j
    · rw [if_pos e2]
      subst e2
      exact h.above h0
    · rw [if_neg e2]
      exact h.far j h0 hj (Ne.symm e2) (Ne.symm e1)
theorem DnX.step {xs : List It} {x : It} {i : Nat} (h : DnX xs x i) (h1 : 2 * i + 1 < xs.length) (hx : ¬ le_ x (gt xs (kidS xs i))) : DnX (xs.set i (gt xs (kidS xs i))) x (kidS xs i) := by
  have hi : i < xs.length := by omega
  have hk := kidS_gt xs i
  have hkl := kidS_lt h1
  have hkp := kid_par xs i
  have hleast := fun j => kid_least (xs := xs) (i := i) j
  generalize kidS xs i = k at *
  refine ⟨fun j j0 hj hjp hpp => ?_, fun k0 => ?_, fun k0 j j0 hj hjp => ?_⟩
  · rw [List.length_set] at hj
    rw [gt_set xs i _ _ hi, gt_set xs i _ _ hi]
    by_cases e1 : i = (j - 1) / 2
    · rw [if_pos e1, if_neg (by omega)]
      exact hleast j j0 hj e1.symm
    · rw [if_neg e1]
      by_cases e2 : i = j
      · rw [if_pos e2]
        subst e2
        exact h.over j0 k (by omega) hkl hkp
      · rw [if_neg e2]
        exact h.far j j0 hj (Ne.symm e2) (Ne.symm e1)
  · rw [gt_set xs i _ _ hi, if_pos hkp.symm]
    exact le_total_ hx
  · rw [List.length_set] at hj
    rw [gt_set xs i _ _ hi, gt_set xs i _ _ hi, if_pos hkp.symm, if_neg (by omega)]
    have h2 := h.far j j0 hj (by omega) (by omega)
    rw [hjp] at h2
    exact h2
theorem down_stop {xs : List It} {m : HK → Option Nat} {x : It} {i : Nat} (h : 2 * i + 1 < xs.length → le_ x (gt xs (kidS xs i))) : downS xs m x i = (xs.set i x, updM m x.key i) := by
  rw [downS]
  by_cases h0 : 2 * i + 1 < xs.length
  · rw [dif_pos h0, if_pos (show hcmp x (xs.getD (kidS xs i) It.none_) ≤ 0 from h h0)]
  · rw [dif_neg h0]
theorem down_go {xs : List It} {m : HK → Option Nat} {x : It} {i : Nat} (h0 : 2 * i + 1 < xs.length) (h : ¬ le_ x (gt xs (kidS xs i))) : downS xs m x i = downS (xs.set i (gt xs (kidS xs i))) (updM m (gt xs (kidS xs i)).key i) x (kidS xs i) := by
  rw [downS, dif_pos h0, if_neg (show ¬ hcmp x (xs.getD (kidS xs i) It.none_) ≤ 0 from h)]
  rfl
theorem down_done (x : It) : ∀ (d : Nat) (i : Nat) (xs : List It) (m : HK → Option Nat), xs.length - i = d → i < xs.length → PosX xs m x i → (downS xs m x i).1.Perm (xs.set i x) ∧ Pos (downS xs m x i).1 (downS xs m x i).2 := by
  intro d
  induction d using Nat.strongRecOn with
  | _ d ih =>
    intro i xs m hd hi h
    by_cases hs : 2 * i + 1 < xs.length → le_ x (gt xs (kidS xs i))
    · rw [down_stop hs]
      exact ⟨List.Perm.refl _, h.end_ hi⟩
    · have h0 : 2 * i + 1 < xs.length := by
        by_cases e : 2 * i + 1 < xs.length
        · exact e
        · exact absurd (fun h => absurd h e) hs
      have hx : ¬ le_ x (gt xs (kidS xs i)) := fun e => hs fun _ => e
      rw [down_go h0 hx]
      have hk := kidS_gt xs i
      have hkl := kidS_lt h0
      obtain ⟨d1, d2⟩ := ih (xs.length - kidS xs i) (by omega) (kidS xs i) (xs.set i (gt xs (kidS xs i))) (updM m (gt xs (kidS xs i)).key i) (by rw [List.length_set]) (by rw [List.length_set]; exact hkl) (h.move hi hkl (by omega))
      exact ⟨d1.trans (swap_perm xs x hi hkl (by omega)), d2⟩
theorem down_heap (x : It) : ∀ (d : Nat) (i : Nat) (xs : List It) (m : HK → Option Nat), xs.length - i = d → i < xs.length → DnX xs x i → Heap (downS xs m x i).1 := by
  intro d
  induction d using Nat.strongRecOn with
  | _ d ih =>
    intro i xs m hd hi h
    by_cases hs : 2 * i + 1 < xs.length → le_ x (gt xs (kidS xs i))
    · rw [down_stop hs]
      exact h.stop hi hs
    · have h0 : 2 * i + 1 < xs.length := by
        by_cases e : 2 * i + 1 < xs.length
        · exact e
        · exact absurd (fun h => absurd h e) hs
      have hx : ¬ le_ x (gt xs (kidS xs i)) := fun e => hs fun _ => e
      rw [down_go h0 hx]
      have hk := kidS_gt xs i
      have hkl := kidS_lt h0
      exact ih (xs.length - kidS xs i) (by omega) _ _ _ (by rw [List.length_set]) (by rw [List.length_set]; exact hkl) (h.step h0 hx)
end Go.Proofs.YtnbdcdeidhhgoaaDoor
