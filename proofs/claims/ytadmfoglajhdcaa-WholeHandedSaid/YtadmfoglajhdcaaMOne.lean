/- Matches in which each task is at one place at most: kept by each call. -/
import Derived.Test.YtadmfoglajhdcaaMTurn
namespace Go.Proofs.Ytadmfoglajhdcaa
set_option maxRecDepth 4000
set_option linter.unusedVariables false
set_option linter.unusedSimpArgs false
open Go Go.RowKit
structure MInv (s : MS) (N now : Int) : Prop where
  one : One s
  tok1 : 0 ≤ s.tok
  tok2 : s.tok ≤ N
  lt : ∀ l ∈ s.ls, 1 ≤ l.tok ∧ l.tok ≤ s.tok
  ltp : s.ls.Pairwise fun a b => a.tok < b.tok
  since : ∀ k, k ≤ 64 → ∀ x ∈ s.q k, 0 ≤ x.since ∧ x.since ≤ now
  lok : ∀ l ∈ s.ls, TaskOk l.run l.kind l.id
  qok : ∀ k, k ≤ 64 → ∀ x ∈ s.q k, TaskOk x.run x.kind x.id
theorem MInv.zero (now : Int) : MInv zeroMS 0 now := by
  refine ⟨fun r k i => ?_, Int.le_refl _, Int.le_refl _, fun l h => by simp [zeroMS] at h, List.Pairwise.nil, fun k _ x h => by simp [zeroMS] at h, fun l h => by simp [zeroMS] at h, fun k _ x h => by simp [zeroMS] at h⟩
  have : ∀ j, waitQ zeroMS j = [] := fun j => by
    induction j with
    | zero => rfl
    | succ j ih => rw [waitQ, ih]; rfl
  unfold cnt kc lc
  rw [this]
  simp [zeroMS]
theorem MInv.mono {s : MS} {N N' now now' : Int} (h : MInv s N now) (hN : N ≤ N') (hn : now ≤ now') : MInv s N' now' :=
  ⟨h.one, h.tok1, Int.le_trans h.tok2 hN, h.lt, h.ltp, fun k hk x hx => ⟨(h.since k hk x hx).1, Int.le_trans (h.since k hk x hx).2 hn⟩, h.lok, h.qok⟩
/-- a step that makes nothing new -/
structure Less (s s' : MS) (now : Int) : Prop where
  c : ∀ r k i, cnt s' r k i ≤ cnt s r k i
  t : s'.tok = s.tok
  l : s'.ls.Sublist s.ls
  q : ∀ k, k ≤ 64 → ∀ x ∈ s'.q k, ∃ j, j ≤ 64 ∧ ∃ y ∈ s.q j, y.run = x.run ∧ y.kind = x.kind ∧ y.id = x.id ∧ (x.since = y.since ∨ x.since = now)
theorem MInv.less {s s' : MS} {N now : Int} (h : MInv s N now) (hl : Less s s' now) (h0 : 0 ≤ now) : MInv s' N now := by
  refine ⟨fun r k i => Nat.le_trans (hl.c r k i) (h.one r k i), by rw [hl.t]; exact h.tok1, by rw [hl.t]; exact h.tok2, fun l hm => by rw [hl.t]; exact h.lt l (hl.l.mem hm), h.ltp.sublist hl.l, fun k hk x hx => ?_, fun l hm => h.lok l (hl.l.mem hm), fun k hk x hx => ?_⟩
  · obtain ⟨j, hj, y, hy, _, _, _, hs⟩ := hl.q k hk x hx
    have := h.since j hj y hy
    rcases hs with hs | hs <;> rw [hs] <;> omega
  · obtain ⟨j, hj, y, hy, e1, e2, e3, _⟩ := hl.q k hk x hx
    have := h.qok j hj y hy
    rwa [e1, e2, e3] at this
theorem Less.refl (s : MS) (now : Int) : Less s s now := ⟨fun _ _ _ => Nat.le_refl _, rfl, List.Sublist.refl _, fun k hk x hx => ⟨k, hk, x, hx, rfl, rfl, rfl, Or.inl rfl⟩⟩
theorem Less.trans {a b c : MS} {now : Int} (h : Less a b now) (k : Less b c now) : Less a c now := by
  refine ⟨fun r i j => Nat.le_trans (k.c r i j) (h.c r i j), k.t.trans h.t, k.l.trans h.l, fun z hz x hx => ?_⟩
  obtain ⟨j, hj, y, hy, e1, e2, e3, e4⟩ := k.q z hz x hx
  obtain ⟨i, hi, v, hv, f1, f2, f3, f4⟩ := h.q j hj y hy
  refine ⟨i, hi, v, hv, f1.trans e1, f2.trans e2, f3.trans e3, ?_⟩
  rcases e4 with e4 | e4
  · rw [e4]; exact f4
  · exact Or.inr e4
/-- a queue loses some -/
theorem Less.sub {s : MS} {k : Nat} {xs : List It} (h : xs.Sublist (s.q k)) (now : Int) : Less s (s.setq k xs) now := by
  refine ⟨fun r c i => ?_, rfl, List.Sublist.refl _, fun j hj x hx => ?_⟩
  · by_cases hk : k ≤ 64
    · have h1 := cnt_setq s hk xs r c i
      have h2 : kc xs r c i ≤ kc (s.q k) r c i := h.countP_le
      omega
    · have h1 := waitQ_setp (isK · r c i) s k xs 64
      rw [if_neg hk, if_neg hk] at h1
      unfold cnt kc
      have e : (s.setq k xs).ls = s.ls := rfl
      rw [e]; omega
  · by_cases hjk : j = k
    · subst hjk
      simp only [MS.setq, if_true] at hx
      exact ⟨j, hj, x, h.mem hx, rfl, rfl, rfl, Or.inl rfl⟩
    · simp only [MS.setq, hjk, if_false] at hx
      exact ⟨j, hj, x, hx, rfl, rfl, rfl, Or.inl rfl⟩
theorem Less.leases {s : MS} {ls : List Ls} (h : ls.Sublist s.ls) (now : Int) : Less s { s with ls := ls } now := by
  refine ⟨fun r c i => ?_, rfl, h, fun j hj x hx => ⟨j, hj, x, hx, rfl, rfl, rfl, Or.inl rfl⟩⟩
  have h2 : lc ls r c i ≤ lc s.ls r c i := h.countP_le
  have h3 : waitQ { s with ls := ls } 64 = waitQ s 64 := waitQ_ls _ _ _ _ _ _
  unfold cnt
  rw [h3]
  show kc (waitQ s 64) r c i + lc ls r c i ≤ _
  omega
theorem keepL_sub (p : Ls → Bool) (ls : List Ls) : (keepL p ls).Sublist ls := List.filter_sublist
theorem less_done (s : MS) (t now : Int) : Less s (s.done t) now := Less.leases (keepL_sub _ _) now
theorem less_dropQ (s : MS) (run now : Int) : ∀ j, Less s (dropQ s run j) now
  | 0 => Less.sub List.filter_sublist now
  | j + 1 => by
    refine (less_dropQ s run now j).trans ?_
    rw [dropQ]
    refine Less.sub ?_ now
    rw [dropQ_q, if_neg (by omega)]
    exact List.filter_sublist
theorem less_drop (s : MS) (run now : Int) : Less s (s.drop run) now := by
  refine (less_dropQ s run now 64).trans ?_
  unfold MS.drop
  refine Less.leases ?_ now
  rw [dropQ_ls]
  exact keepL_sub _ _
theorem less_cancel (s : MS) (r k i now : Int) : Less s (s.cancel r k i) now := by
  unfold MS.cancel
  split
  · exact less_done s _ now
  · split
    · exact Less.sub List.filter_sublist now
    · exact Less.refl s now
theorem less_expS {s : MS} (h : One s) (now : Int) : ∀ j, j ≤ 64 → Less s (expS s now j) now
  | 0, _ => Less.refl s now
  | j + 1, hj => by
    refine (less_expS h now j (by omega)).trans ?_
    rw [expS]
    have hS := expS_eq h now j (by omega)
    have hq : (expS s now j).q (j + 1) = s.q (j + 1) := by rw [hS]; simp [expT, show ¬ j + 1 ≤ j by omega]
    have h0 : (expS s now j).q 0 = mvAll s now j := by rw [hS]; simp [expT]
    generalize expS s now j = s1 at *
    have hx : expQ (s1.q (j + 1)) now (s1.q 0, s1.q (j + 1)) = (s1.q 0 ++ mv now (s1.q (j + 1)) (s1.q 0).length, lf now (s1.q (j + 1)) (s1.q 0).length) := by
      rw [hq, h0]
      have := expQ_turn now (s.q (j + 1)) (mvAll s now j) [] (fun x hx => ?_) (fun _ _ _ h => by simp at h) (h.apart hj)
      · simpa using this
      · rw [List.any_eq_false]
        intro y hy
        obtain ⟨k, hk, z, hz, e1, e2, e3⟩ := mvAll_mem hy
        have := List.any_eq_false.1 (h.fresh hj (k := k) (by omega) (by omega) hx) z hz
        rw [isK, e1, e2, e3] at this
        exact this
    rw [stI, hx]
    clear hx hq h0 hS
    generalize (s1.q 0).length = n
    have hc : ∀ r k i, cnt ((s1.setq (j + 1) (lf now (s1.q (j + 1)) n)).setq 0 (s1.q 0 ++ mv now (s1.q (j + 1)) n)) r k i = cnt s1 r k i := by
      intro r k i
      have h1 := cnt_setq s1 (k := j + 1) hj (lf now (s1.q (j + 1)) n) r k i
      have h2 := cnt_setq (s1.setq (j + 1) (lf now (s1.q (j + 1)) n)) (k := 0) (by omega) (s1.q 0 ++ mv now (s1.q (j + 1)) n) r k i
      have h3 : (s1.setq (j + 1) (lf now (s1.q (j + 1)) n)).q 0 = s1.q 0 := by simp [MS.setq]
      rw [h3] at h2
      have h4 := kc_turn now r k i (s1.q (j + 1)) n
      have h5 : kc (s1.q 0 ++ mv now (s1.q (j + 1)) n) r k i = kc (s1.q 0) r k i + kc (mv now (s1.q (j + 1)) n) r k i := List.countP_append
      omega
    refine ⟨fun r k i => Nat.le_of_eq (hc r k i), rfl, List.Sublist.refl _, fun k hk x hx => ?_⟩
    by_cases h0 : k = 0
    · subst h0
      simp only [MS.setq, if_true] at hx
      rcases List.mem_append.1 hx with hx | hx
      · exact ⟨0, by omega, x, hx, rfl, rfl, rfl, Or.inl rfl⟩
      · obtain ⟨y, hy, e1, e2, e3, e4⟩ := mv_mem hx
        exact ⟨j + 1, hj, y, hy, e1, e2, e3, Or.inr e4⟩
    · simp only [MS.setq, h0, if_false] at hx
      by_cases h1 : k = j + 1
      · subst h1
        simp only [if_true] at hx
        exact ⟨j + 1, hj, x, lf_mem hx, rfl, rfl, rfl, Or.inl rfl⟩
      · simp only [h1, if_false] at hx
        exact ⟨k, hk, x, hx, rfl, rfl, rfl, Or.inl rfl⟩
theorem less_expire {s : MS} (h : One s) (now : Int) : Less s (s.expire now) now := by
  refine (less_expS h now 64 (Nat.le_refl _)).trans ?_
  unfold MS.expire
  refine Less.leases ?_ now
  rw [expS_ls]
  exact keepL_sub _ _
theorem less_loseQ {s : MS} (h : One s) {z : Int} (now : Int) (hz : ¬ (z < 1 ∨ 64 < z)) : Less s (loseQ s z.toNat (s.q z.toNat) [] now) now := by
  obtain ⟨k, hk⟩ : ∃ k, z.toNat = k := ⟨_, rfl⟩
  rw [hk]
  have hk0 : k ≠ 0 := by omega
  have hk64 : k ≤ 64 := by omega
  have hm := moved_take now (s.q k) (s.q 0) (fun x hx => h.fresh hk64 (by omega) hk0 hx) (h.apart hk64)
  unfold loseQ
  rw [hm]
  refine ⟨fun r c i => ?_, rfl, List.Sublist.refl _, fun j hj x hx => ?_⟩
  · have h1 := cnt_setq s (k := k) hk64 [] r c i
    have h2 := cnt_setq (s.setq k []) (k := 0) (by omega) (s.q 0 ++ ((s.q k).take (128 - (s.q 0).length)).map fun x => ⟨x.run, x.kind, x.id, now⟩) r c i
    have h3 : (s.setq k []).q 0 = s.q 0 := by simp [MS.setq, Ne.symm hk0]
    rw [h3] at h2
    have h5 : kc (s.q 0 ++ ((s.q k).take (128 - (s.q 0).length)).map fun x => ⟨x.run, x.kind, x.id, now⟩) r c i = kc (s.q 0) r c i + kc ((s.q k).take (128 - (s.q 0).length)) r c i := by
      unfold kc
      rw [List.countP_append, List.countP_map]; rfl
    have h6 : kc ((s.q k).take (128 - (s.q 0).length)) r c i ≤ kc (s.q k) r c i := (List.take_sublist _ _).countP_le
    have h7 : kc ([] : List It) r c i = 0 := rfl
    omega
  · by_cases h0 : j = 0
    · subst h0
      simp only [MS.setq, if_true] at hx
      rcases List.mem_append.1 hx with hx | hx
      · exact ⟨0, by omega, x, hx, rfl, rfl, rfl, Or.inl rfl⟩
      · obtain ⟨y, hy, rfl⟩ := List.mem_map.1 hx
        exact ⟨k, hk64, y, List.mem_of_mem_take hy, rfl, rfl, rfl, Or.inr rfl⟩
    · simp only [MS.setq, h0, if_false] at hx
      by_cases h1 : j = k
      · simp [h1] at hx
      · simp only [h1, if_false] at hx
        exact ⟨j, hj, x, hx, rfl, rfl, rfl, Or.inl rfl⟩
theorem less_lose {s : MS} (h : One s) (z now : Int) : Less s (s.lose z now) now := by
  unfold MS.lose
  split
  · exact Less.refl s now
  · rename_i hz
    exact (less_loseQ h now hz).trans (Less.leases (keepL_sub _ _) now)
/-! ### what makes something new -/
theorem MInv.add {s : MS} {N now : Int} (h : MInv s N now) (r k i z : Int) (hok : TaskOk r k i) (h0 : 0 ≤ now) : MInv (madd s r k i z now) N now := by
  unfold madd
  split
  · exact h
  · rename_i hkn
    split
    · exact h
    · rename_i hz
      have hz' : z.toNat ≤ 64 := by omega
      unfold qadd
      split
      · rw [MS.setq_same]; exact h
      · split
        · rw [MS.setq_same]; exact h
        · have hk0 := known_false (by simpa using hkn : s.known r k i = false)
          refine ⟨fun r' k' i' => ?_, h.tok1, h.tok2, h.lt, h.ltp, fun j hj x hx => ?_, h.lok, fun j hj x hx => ?_⟩
          · have h1 := cnt_setq s hz' (s.q z.toNat ++ [⟨r, k, i, now⟩]) r' k' i'
            have h2 : kc (s.q z.toNat ++ [⟨r, k, i, now⟩]) r' k' i' = kc (s.q z.toNat) r' k' i' + (if isK ⟨r, k, i, now⟩ r' k' i' = true then 1 else 0) := by
              unfold kc
              rw [List.countP_append, List.countP_singleton]
            have h3 := h.one r' k' i'
            by_cases he : isK ⟨r, k, i, now⟩ r' k' i' = true
            · rw [if_pos he] at h2
              obtain ⟨e1, e2, e3⟩ := isK_iff.1 he
              simp only at e1 e2 e3
              subst e1 e2 e3
              omega
            · rw [if_neg he] at h2
              omega
          · by_cases hjk : j = z.toNat
            · simp only [MS.setq, hjk, if_true] at hx
              rcases List.mem_append.1 hx with hx | hx
              · exact h.since _ hz' x hx
              · simp at hx; subst hx; exact ⟨h0, Int.le_refl _⟩
            · simp only [MS.setq, hjk, if_false] at hx
              exact h.since j hj x hx
          · by_cases hjk : j = z.toNat
            · simp only [MS.setq, hjk, if_true] at hx
              rcases List.mem_append.1 hx with hx | hx
              · exact h.qok _ hz' x hx
              · simp at hx; subst hx; exact hok
            · simp only [MS.setq, hjk, if_false] at hx
              exact h.qok j hj x hx
/-- what is picked waits at its place -/
theorem pick_mem {s : MS} {z kind : Int} {k : Nat} {x : It} (h : s.pick z kind = some (k, x)) : x ∈ s.q k ∧ x.kind = kind ∧ (k = z.toNat ∨ k = 0) := by
  unfold MS.pick at h
  split at h
  · rename_i y hy
    simp only [Option.some.injEq, Prod.mk.injEq] at h
    obtain ⟨rfl, rfl⟩ := h
    exact ⟨List.mem_of_find?_eq_some hy, by simpa using List.find?_some hy, Or.inl rfl⟩
  · obtain ⟨y, hy, he⟩ := Option.map_eq_some_iff.1 h
    simp only [Prod.mk.injEq] at he
    obtain ⟨rfl, rfl⟩ := he
    exact ⟨List.mem_of_find?_eq_some hy, by simpa using List.find?_some hy, Or.inr rfl⟩
theorem kc_others (xs : List It) (r k i r' k' i' : Int) : kc (others xs r k i) r' k' i' = if r' = r ∧ k' = k ∧ i' = i then 0 else kc xs r' k' i' := by
  unfold kc others
  rw [List.countP_filter]
  split
  · rename_i h
    obtain ⟨rfl, rfl, rfl⟩ := h
    rw [List.countP_eq_zero]
    intro x _
    simp
  · rename_i h
    refine List.countP_congr fun x _ => ?_
    constructor
    · intro h1; simp at h1; exact h1.1
    · intro h1
      simp only [h1, Bool.true_and]
      rw [Bool.not_eq_true', Bool.eq_false_iff]
      intro h2
      rw [isK_iff] at h1 h2
      exact h ⟨h1.1.symm.trans h2.1, h1.2.1.symm.trans h2.2.1, h1.2.2.symm.trans h2.2.2⟩
theorem MInv.poll {s : MS} {N now : Int} (h : MInv s N now) (z kind t : Int) : MInv (pollS s z kind t) (N + 1) now := by
  have hm : MInv s (N + 1) now := h.mono (by omega) (Int.le_refl _)
  unfold pollS
  split
  · exact hm
  · rename_i hz
    split
    · exact hm
    · split
      · rename_i k x hp
        obtain ⟨hx, _, hk⟩ := pick_mem hp
        have hk64 : k ≤ 64 := by omega
        refine ⟨fun r c i => ?_, by show 0 ≤ s.tok + 1; have := h.tok1; omega, by show s.tok + 1 ≤ N + 1; have := h.tok2; omega, fun l hl => ?_, ?_, fun j hj y hy => ?_, fun l hl => ?_, fun j hj y hy => ?_⟩
        · have h1 := cnt_setq s hk64 (others (s.q k) x.run x.kind x.id) r c i
          rw [kc_others] at h1
          have h2 : ∀ ls, waitQ (⟨s.tok + 1, (s.setq k (others (s.q k) x.run x.kind x.id)).q, ls⟩ : MS) 64 = waitQ (s.setq k (others (s.q k) x.run x.kind x.id)) 64 := fun ls => waitQ_ls _ _ _ _ _ _
          have h3 := h.one r c i
          show cnt ⟨s.tok + 1, (s.setq k (others (s.q k) x.run x.kind x.id)).q, s.ls ++ [⟨s.tok + 1, x.run, x.kind, x.id, z, t + 20⟩]⟩ r c i ≤ 1
          unfold cnt at h1 h3 ⊢
          rw [h2]
          have h4 : lc (s.ls ++ [⟨s.tok + 1, x.run, x.kind, x.id, z, t + 20⟩]) r c i = lc s.ls r c i + (if x.run = r ∧ x.kind = c ∧ x.id = i then 1 else 0) := by
            unfold lc
            rw [List.countP_append, List.countP_singleton]
            simp only [isL_iff]
          have h5 : (s.setq k (others (s.q k) x.run x.kind x.id)).ls = s.ls := rfl
          rw [h5] at h1
          show kc (waitQ (s.setq k (others (s.q k) x.run x.kind x.id)) 64) r c i + lc (s.ls ++ [⟨s.tok + 1, x.run, x.kind, x.id, z, t + 20⟩]) r c i ≤ 1
          rw [h4]
          by_cases he : x.run = r ∧ x.kind = c ∧ x.id = i
          · obtain ⟨rfl, rfl, rfl⟩ := he
            have h6 := kc_mem hx
            simp only [and_self, if_true] at h1 ⊢
            omega
          · rw [if_neg he]
            rw [if_neg (fun h => he ⟨h.1.symm, h.2.1.symm, h.2.2.symm⟩)] at h1
            omega
        · rcases List.mem_append.1 hl with hl | hl
          · have := h.lt l hl
            exact ⟨this.1, by show l.tok ≤ s.tok + 1; omega⟩
          · simp at hl; subst hl
            have := h.tok1
            exact ⟨by show 1 ≤ s.tok + 1; omega, Int.le_refl _⟩
        · show (s.ls ++ [_]).Pairwise _
          rw [List.pairwise_append]
          refine ⟨h.ltp, List.pairwise_singleton _ _, fun a ha b hb => ?_⟩
          simp at hb; subst hb
          have := h.lt a ha
          show a.tok < s.tok + 1
          omega
        · have hy' : y ∈ (s.setq k (others (s.q k) x.run x.kind x.id)).q j := hy
          by_cases hjk : j = k
          · subst hjk
            simp only [MS.setq, if_true] at hy'
            exact h.since j hj y (List.mem_filter.1 (show y ∈ List.filter _ _ from hy')).1
          · simp only [MS.setq, hjk, if_false] at hy'
            exact h.since j hj y hy'
        · rcases List.mem_append.1 hl with hl | hl
          · exact h.lok l hl
          · simp at hl; subst hl; exact h.qok k hk64 x hx
        · have hy' : y ∈ (s.setq k (others (s.q k) x.run x.kind x.id)).q j := hy
          by_cases hjk : j = k
          · subst hjk
            simp only [MS.setq, if_true] at hy'
            exact h.qok j hj y (List.mem_filter.1 (show y ∈ List.filter _ _ from hy')).1
          · simp only [MS.setq, hjk, if_false] at hy'
            exact h.qok j hj y hy'
      · exact hm
end Go.Proofs.Ytadmfoglajhdcaa
