/- Drop and Cancel keep the document's matches and the program's like each other: the plain law. -/
import Derived.Test.YtfbolgdecdfnaaaPSimOps
namespace Go.Proofs.Ytfbolgdecdfnaaa
set_option maxRecDepth 4000
set_option linter.unusedVariables false
set_option linter.unusedSimpArgs false
open Go Go.RowKit
theorem hitH_all (r k i : Int) (h : Hd) : hitH r k i true h = (h.run == r) := by
  unfold hitH isH
  cases h.run == r <;> simp
theorem hitL_all (r k i : Int) (l : Ls) : hitL r k i true l = (l.run == r) := by
  unfold hitL isL
  cases l.run == r <;> simp
theorem hitH_one (r k i : Int) (h : Hd) : hitH r k i false h = isH h r k i := by simp [hitH]
theorem hitL_one (r k i : Int) (l : Ls) : hitL r k i false l = isL l r k i := by simp [hitL]
theorem ofW_filter (p : Hd → Bool) (q : It → Bool) (hpq : ∀ h, p h = q h.it) (ws : List Hd) (k : Nat) : ofW (ws.filter p) k = (ofW ws k).filter q := by
  induction ws with
  | nil => rfl
  | cons h hs ih =>
    rw [List.filter_cons]
    by_cases hp : p h = true
    · rw [if_pos hp, ofW_cons, ofW_cons, ih]
      split
      · rw [List.filter_cons, if_pos (by rw [← hpq]; exact hp)]
      · rfl
    · rw [if_neg hp, ofW_cons, ih]
      split
      · rw [List.filter_cons, if_neg (by rw [← hpq]; exact hp)]
      · rfl
theorem dropN_len (s : MS) (run : Int) : ∀ j, j ≤ 64 → dropN s run j = ((waitQ s j).length : Int) - ((waitQ (dropQ s run 64) j).length : Int)
  | 0, _ => by rw [dropN, waitQ, waitQ, dropQ_q, if_pos (by omega)]
  | j + 1, hj => by
    rw [dropN, waitQ, waitQ, List.length_append, List.length_append, dropN_len s run j (by omega), dropQ_q, if_pos (by omega)]
    omega
section
variable {s : MS} {ws : List Hd} {ls : List Ls} {t : Int}
theorem Sim.drop (h : Sim s ws ls t) (r k i : Int) : Sim (s.drop r) (rcutW r k i true ws) (rcutL r k i true ls) t ∧ s.dropped r = (ws.length : Int) - (rcutW r k i true ws).length + ls.length - (rcutL r k i true ls).length := by
  have hl : keepL (fun l => l.run == r) s.ls = rcutL r k i true ls := by
    unfold keepL rcutL
    rw [h.ls]
    exact List.filter_congr fun l _ => by rw [hitL_all]
  have ht : ∀ j, (dropQ s r j).tok = s.tok := fun j => by
    induction j with
    | zero => rfl
    | succ j ih => exact ih
  have hS : Sim (s.drop r) (rcutW r k i true ws) (rcutL r k i true ls) t := by
    have h1 := ht 64
    have h2 := dropQ_q s r 64
    unfold MS.drop
    generalize dropQ s r 64 = e at *
    refine ⟨h1.trans h.tok, hl, fun j hj => ?_, fun x hx => h.rng x (List.mem_filter.1 hx).1⟩
    show e.q j = _
    rw [h2 j, if_pos hj, h.q j hj, rcutW, ofW_filter _ (fun x => !(x.run == r)) (fun h => by rw [hitH_all]; rfl)]
    rfl
  refine ⟨hS, ?_⟩
  have h1 := hS.len64
  have h2 := h.len64
  have h3 := dropN_len s r 64 (Nat.le_refl _)
  have h4 : waitQ (s.drop r) 64 = waitQ (dropQ s r 64) 64 := waitQ_ls _ _ _ _ _ _
  rw [h4] at h1
  rw [h1, h2] at h3
  unfold MS.dropped
  rw [h3, hl, h.ls]
theorem apartL_inj {xs : List Ls} (h : xs.Pairwise fun a b => isL a b.run b.kind b.id = false) : ∀ a ∈ xs, ∀ b ∈ xs, isL a b.run b.kind b.id = true → a = b := by
  induction xs with
  | nil => intro a ha; simp at ha
  | cons x xs ih =>
    rw [List.pairwise_cons] at h
    intro a ha b hb e
    rcases List.mem_cons.1 ha with ha1 | ha <;> rcases List.mem_cons.1 hb with hb1 | hb
    · rw [ha1, hb1]
    · have := h.1 b hb
      subst ha1
      rw [e] at this; cases this
    · have := h.1 a ha
      subst hb1
      obtain ⟨e1, e2, e3⟩ := isL_iff.1 e
      rw [isL_iff.2 ⟨e1.symm, e2.symm, e3.symm⟩] at this; cases this
    · exact ih h.2 a ha b hb e
theorem apartL_of' {xs : List Ls} (h : ∀ r k i, lc xs r k i ≤ 1) : xs.Pairwise fun a b => isL a b.run b.kind b.id = false := by
  induction xs with
  | nil => exact List.Pairwise.nil
  | cons x xs ih =>
    refine List.Pairwise.cons (fun y hy => ?_) (ih fun r k i => ?_)
    · have h1 := h y.run y.kind y.id
      have h2 := lc_mem hy
      unfold lc at h1 h2
      rw [List.countP_cons] at h1
      cases hx : isL x y.run y.kind y.id with
      | false => rfl
      | true => rw [if_pos hx] at h1; omega
    · have h1 := h r k i
      unfold lc at h1 ⊢
      rw [List.countP_cons] at h1
      omega
theorem Sim.cancel (h : Sim s ws ls t) {N now : Int} (hI : MInv s N now) (r k i : Int) : Sim (s.cancel r k i) (rcutW r k i false ws) (rcutL r k i false ls) t ∧ s.canceled r k i = decide (0 < (ws.length : Int) - (rcutW r k i false ws).length + ls.length - (rcutL r k i false ls).length) := by
  have hO := hI.one
  have hlp := apartL_of' (fun r k i => Nat.le_trans (Nat.le_add_left _ (kc (waitQ s 64) r k i)) (hO r k i) : ∀ r k i, lc s.ls r k i ≤ 1)
  have hcW : (rcutW r k i false ws).length + ws.countP (isH · r k i) = ws.length := by
    unfold rcutW
    rw [← List.countP_eq_length_filter]
    have : ∀ ws : List Hd, ws.countP (fun h => !hitH r k i false h) + ws.countP (isH · r k i) = ws.length := by
      intro ws
      induction ws with
      | nil => rfl
      | cons x xs ih =>
        rw [List.countP_cons, List.countP_cons, List.length_cons, ← ih, hitH_one]
        cases isH x r k i <;> simp <;> omega
    exact this ws
  have hcL : (rcutL r k i false ls).length + lc ls r k i = ls.length := by
    unfold rcutL lc
    rw [← List.countP_eq_length_filter]
    have : ∀ ls : List Ls, ls.countP (fun h => !hitL r k i false h) + ls.countP (isL · r k i) = ls.length := by
      intro ls
      induction ls with
      | nil => rfl
      | cons x xs ih =>
        rw [List.countP_cons, List.countP_cons, List.length_cons, ← ih, hitL_one]
        cases isL x r k i <;> simp <;> omega
    exact this ls
  have hwW : 0 < ws.countP (isH · r k i) ↔ 0 < kc (waitQ s 64) r k i := by
    rw [List.countP_pos_iff, kc_pos, List.any_eq_true]
    constructor
    · rintro ⟨x, hx, hp⟩
      obtain ⟨k', hk', _, hm⟩ := h.mem hx
      exact ⟨x.it, waitQ_mem.2 ⟨k', hk', hm⟩, hp⟩
    · rintro ⟨x, hx, hp⟩
      obtain ⟨j, hj, hx⟩ := waitQ_mem.1 hx
      rw [h.q j hj, ofW, List.mem_map] at hx
      obtain ⟨y, hy, rfl⟩ := hx
      exact ⟨y, (List.mem_filter.1 hy).1, hp⟩
  have hone := hO r k i
  unfold cnt at hone
  rw [h.ls] at hone hlp
  by_cases hh : s.had r k i = true
  · have hlc : 0 < lc ls r k i := by rw [← h.ls]; exact lc_pos.2 hh
    have hk0 : ws.countP (isH · r k i) = 0 := by
      rcases Nat.eq_zero_or_pos (ws.countP (isH · r k i)) with h1 | h1
      · exact h1
      · have := hwW.1 h1; omega
    obtain ⟨pre, l, post, hx, hl, _, _, hfind⟩ := had_split hh
    have hlm : l ∈ ls := by rw [← h.ls, hx]; simp
    have hkeep : keepL (fun x => x.tok == l.tok) ls = rcutL r k i false ls := by
      unfold keepL rcutL
      refine List.filter_congr fun x hxm => ?_
      rw [hitL_one]
      congr 1
      rw [Bool.eq_iff_iff, beq_iff_eq]
      constructor
      · intro e
        rw [tok_inj (by rw [← h.ls]; exact hI.ltp) x hxm l hlm e]; exact hl
      · intro e
        obtain ⟨e1, e2, e3⟩ := isL_iff.1 e
        obtain ⟨f1, f2, f3⟩ := isL_iff.1 hl
        rw [apartL_inj hlp x hxm l hlm (isL_iff.2 ⟨e1.trans f1.symm, e2.trans f2.symm, e3.trans f3.symm⟩)]
    have hW : rcutW r k i false ws = ws := by
      unfold rcutW
      rw [List.filter_eq_self]
      intro x hx
      rw [hitH_one]
      have := List.countP_eq_zero.1 hk0 x hx
      simpa using this
    unfold MS.cancel MS.canceled
    rw [if_pos hh, if_pos hh, hfind]
    refine ⟨⟨h.tok, by show keepL _ s.ls = _; rw [h.ls]; exact hkeep, fun j hj => by rw [hW]; exact h.q j hj, by rw [hW]; exact h.rng⟩, ?_⟩
    rw [decide_eq_decide, hW]
    show (keepL _ s.ls).length < s.ls.length ↔ _
    rw [h.ls]
    have : keepL (fun x => x.tok == ((some l).getD zeroL).tok) ls = rcutL r k i false ls := hkeep
    rw [this]
    omega
  · have hlc : lc ls r k i = 0 := by rw [← h.ls]; exact lc_zero (by simpa [MS.had] using hh)
    have hL : rcutL r k i false ls = ls := by
      unfold rcutL
      rw [List.filter_eq_self]
      intro x hx
      rw [hitL_one]
      have := List.countP_eq_zero.1 hlc x hx
      simpa using this
    have hof : ∀ j, ofW (rcutW r k i false ws) j = others (ofW ws j) r k i := fun j => by
      rw [rcutW, ofW_filter _ (fun x => !isK x r k i) (fun h => by rw [hitH_one]; rfl)]; rfl
    have hSim : Sim (match s.where_ r k i with | some j => s.setq j (others (s.q j) r k i) | none => s) (rcutW r k i false ws) (rcutL r k i false ls) t := by
      have hno : ∀ j, j ≤ 64 → (s.q j).any (isK · r k i) = false → others (s.q j) r k i = s.q j := fun j _ hj => others_none hj
      cases hw : s.where_ r k i with
      | some j0 =>
        have hj0 := hw
        unfold MS.where_ at hj0
        have hj0m : j0 < 65 := List.mem_range.1 (List.mem_of_find?_eq_some hj0)
        have hj0p : (s.q j0).any (isK · r k i) = true := List.find?_some (p := fun j => (s.q j).any (isK · r k i)) hj0
        refine ⟨h.tok, by rw [hL]; exact h.ls, fun j hj => ?_, fun x hx => h.rng x (List.mem_filter.1 hx).1⟩
        rw [hof, ← h.q j hj]
        by_cases hjj : j = j0
        · subst hjj; simp [MS.setq]
        · have hj2 : (s.q j).any (isK · r k i) = false := by
            rw [Bool.eq_false_iff]
            intro hj2
            have h1 := waitQ_two (isK · r k i) s hj (show j0 ≤ 64 by omega) hjj
            have h2 := kc_pos.2 hj0p
            have h3 := kc_pos.2 hj2
            unfold kc at *; omega
          rw [hno j hj hj2]
          simp [MS.setq, hjj]
      | none =>
        refine ⟨h.tok, by rw [hL]; exact h.ls, fun j hj => ?_, fun x hx => h.rng x (List.mem_filter.1 hx).1⟩
        rw [hof, ← h.q j hj]
        refine (hno j hj ?_).symm
        unfold MS.where_ at hw
        have := List.find?_eq_none.1 hw j (List.mem_range.2 (by omega))
        simpa using this
    unfold MS.cancel MS.canceled
    rw [if_neg hh, if_neg hh]
    refine ⟨hSim, ?_⟩
    rw [Bool.eq_iff_iff, decide_eq_true_eq, where_some, ← hwW, hL]
    omega
end
end Go.Proofs.Ytfbolgdecdfnaaa
