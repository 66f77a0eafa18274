/- The document's turn and the program's: the plain law. -/
import Derived.Test.YtfbolgdecdfnaaaPSim
namespace Go.Proofs.Ytfbolgdecdfnaaa
set_option maxRecDepth 4000
set_option linter.unusedVariables false
set_option linter.unusedSimpArgs false
open Go Go.RowKit
def tmv (k worker now : Int) (lost : Bool) : List Hd → Nat → List Hd
  | [], _ => []
  | h :: hs, n => if stays k worker now h = true then tmv k worker now lost hs n else if n < 128 then ⟨h.run, h.kind, h.id, 0, now⟩ :: tmv k worker now lost hs (n + 1) else tmv k worker now lost hs n
def tlf (k worker now : Int) (lost : Bool) : List Hd → Nat → List Hd
  | [], _ => []
  | h :: hs, n => if stays k worker now h = true then h :: tlf k worker now lost hs n else if n < 128 then tlf k worker now lost hs (n + 1) else if lost = false then h :: tlf k worker now lost hs n else tlf k worker now lost hs n
theorem fold_eq (k worker now : Int) (lost : Bool) : ∀ (ws L M : List Hd) (n : Nat), (ws.foldl (tstep k worker now lost) (L, M, n)).1 = L ++ tlf k worker now lost ws n ∧ (ws.foldl (tstep k worker now lost) (L, M, n)).2.1 = M ++ tmv k worker now lost ws n
  | [], L, M, n => by simp [tlf, tmv]
  | h :: hs, L, M, n => by
    rw [List.foldl_cons, tlf, tmv, tstep]
    by_cases h1 : stays k worker now h = true
    · rw [if_pos h1, if_pos h1, if_pos h1]
      have := fold_eq k worker now lost hs (L ++ [h]) M n
      simpa using this
    · rw [if_neg h1, if_neg h1, if_neg h1]
      by_cases h2 : n < 128
      · rw [if_pos h2, if_pos h2, if_pos (show (L, M, n).2.2 < 128 from h2)]
        have := fold_eq k worker now lost hs L (M ++ [⟨h.run, h.kind, h.id, 0, now⟩]) (n + 1)
        simpa using this
      · rw [if_neg h2, if_neg h2, if_neg (show ¬ (L, M, n).2.2 < 128 from h2)]
        by_cases h3 : lost = false
        · rw [if_pos h3, if_pos h3]
          have := fold_eq k worker now lost hs (L ++ [h]) M n
          simpa using this
        · rw [if_neg h3, if_neg h3]
          exact fold_eq k worker now lost hs L M n
theorem turnK_eq (k worker now : Int) (lost : Bool) (ws : List Hd) : turnK k worker now lost ws = tlf k worker now lost ws (rcount ws 0) ++ tmv k worker now lost ws (rcount ws 0) := by
  have := fold_eq k worker now lost ws [] [] (rcount ws 0)
  unfold turnK tfold
  rw [this.1, this.2]; simp
theorem ofW_cons (h : Hd) (ws : List Hd) (k : Nat) : ofW (h :: ws) k = if h.worker = (k : Int) then h.it :: ofW ws k else ofW ws k := by
  unfold ofW
  rw [List.filter_cons]
  by_cases hk : h.worker = (k : Int)
  · have : waitsFor k h = true := by unfold waitsFor; simpa using hk
    rw [if_pos hk, if_pos this]; rfl
  · have : ¬ waitsFor k h = true := by unfold waitsFor; simpa using hk
    rw [if_neg hk, if_neg this]
theorem stays_other {k worker now : Int} {h : Hd} (hk : h.worker ≠ k) : stays k worker now h = true := by
  unfold stays
  simp [hk]
theorem tlf_other {k : Nat} {worker now : Int} {lost : Bool} {k' : Nat} (hne : k' ≠ k) : ∀ (ws : List Hd) (n : Nat), ofW (tlf k worker now lost ws n) k' = ofW ws k'
  | [], _ => rfl
  | h :: hs, n => by
    rw [tlf, ofW_cons]
    by_cases hk : h.worker = (k' : Int)
    · rw [if_pos (stays_other (by rw [hk]; omega)), ofW_cons, if_pos hk, if_pos hk, tlf_other hne hs n]
    · rw [if_neg hk]
      split
      · rw [ofW_cons, if_neg hk, tlf_other hne hs n]
      · split
        · exact tlf_other hne hs _
        · split
          · rw [ofW_cons, if_neg hk, tlf_other hne hs n]
          · exact tlf_other hne hs n
theorem tmv_worker {k worker now : Int} {lost : Bool} : ∀ (ws : List Hd) (n : Nat), ∀ h ∈ tmv k worker now lost ws n, h.worker = 0
  | [], _, _, h => by simp [tmv] at h
  | x :: xs, n, h, hh => by
    rw [tmv] at hh
    split at hh
    · exact tmv_worker xs n h hh
    · split at hh
      · rcases List.mem_cons.1 hh with rfl | hh
        · rfl
        · exact tmv_worker xs _ h hh
      · exact tmv_worker xs n h hh
theorem ofW_zero {l : List Hd} (h : ∀ x ∈ l, x.worker = 0) : ofW l 0 = l.map Hd.it := by
  unfold ofW
  rw [List.filter_eq_self.2 (fun x hx => by unfold waitsFor; rw [h x hx]; rfl)]
theorem ofW_none {l : List Hd} (h : ∀ x ∈ l, x.worker = 0) {k : Nat} (hk : k ≠ 0) : ofW l k = [] := by
  unfold ofW
  rw [List.filter_eq_nil_iff.2 (fun x hx => by unfold waitsFor; rw [h x hx]; simp; omega)]; rfl
/-- what Expire moves -/
theorem tmv_exp {k : Nat} {now : Int} : ∀ (ws : List Hd) (n : Nat), (tmv k 0 now false ws n).map Hd.it = mv now (ofW ws k) n ∧ ofW (tlf k 0 now false ws n) k = lf now (ofW ws k) n
  | [], _ => by simp [tmv, tlf, ofW, mv, lf]
  | h :: hs, n => by
    rw [tmv, tlf, ofW_cons]
    by_cases hk : h.worker = (k : Int)
    · rw [if_pos hk, mv, lf]
      have hst : stays k 0 now h = decide (now - h.since < 5) := by unfold stays; simp [hk]
      by_cases hd : now - h.since < 5
      · have h1 : stays k 0 now h = true := by rw [hst]; simpa using hd
        rw [if_pos h1, if_pos h1, if_neg (show ¬ (5 ≤ now - h.it.since ∧ n < 128) by show ¬ (5 ≤ now - h.since ∧ n < 128); omega), if_neg (show ¬ (5 ≤ now - h.it.since ∧ n < 128) by show ¬ (5 ≤ now - h.since ∧ n < 128); omega), ofW_cons, if_pos hk, (tmv_exp hs n).1, (tmv_exp hs n).2]
        exact ⟨rfl, rfl⟩
      · have h1 : ¬ stays k 0 now h = true := by rw [hst]; simpa using hd
        rw [if_neg h1, if_neg h1]
        by_cases hn : n < 128
        · have h2 : 5 ≤ now - h.it.since ∧ n < 128 := by show 5 ≤ now - h.since ∧ n < 128; omega
          rw [if_pos hn, if_pos hn, if_pos h2, if_pos h2, List.map_cons, (tmv_exp hs (n + 1)).1, (tmv_exp hs (n + 1)).2]
          exact ⟨rfl, rfl⟩
        · have h2 : ¬ (5 ≤ now - h.it.since ∧ n < 128) := by omega
          rw [if_neg hn, if_neg hn, if_neg h2, if_neg h2, if_pos rfl, ofW_cons, if_pos hk, (tmv_exp hs n).1, (tmv_exp hs n).2]
          exact ⟨rfl, rfl⟩
    · rw [if_neg hk, if_pos (stays_other hk), if_pos (stays_other hk), ofW_cons, if_neg hk]
      exact tmv_exp hs n
/-- what Lose moves -/
theorem tmv_lose {k : Nat} (hk0 : k ≠ 0) {now : Int} : ∀ (ws : List Hd) (n : Nat), (tmv k k now true ws n).map Hd.it = ((ofW ws k).take (128 - n)).map (fun x => (⟨x.run, x.kind, x.id, now⟩ : It)) ∧ ofW (tlf k k now true ws n) k = []
  | [], _ => by simp [tmv, tlf, ofW]
  | h :: hs, n => by
    rw [tmv, tlf, ofW_cons]
    by_cases hk : h.worker = (k : Int)
    · have h1 : ¬ stays k k now h = true := by
        unfold stays
        have : ((k : Int) == 0) = false := by rw [beq_eq_false_iff_ne]; omega
        simp [hk, this]
      rw [if_pos hk, if_neg h1, if_neg h1]
      by_cases hn : n < 128
      · obtain ⟨d, hd⟩ : ∃ d, 128 - n = d + 1 := ⟨127 - n, by omega⟩
        have hd2 : 128 - (n + 1) = d := by omega
        rw [if_pos hn, if_pos hn, hd, List.take_succ_cons, List.map_cons, List.map_cons, (tmv_lose hk0 hs (n + 1)).1, (tmv_lose hk0 hs (n + 1)).2, hd2]
        exact ⟨rfl, rfl⟩
      · have := tmv_lose hk0 (now := now) hs n
        rw [show 128 - n = 0 by omega] at this ⊢
        rw [if_neg hn, if_neg hn, if_neg (by decide), this.1, this.2]
        exact ⟨by simp, rfl⟩
    · rw [if_neg hk, if_pos (stays_other hk), if_pos (stays_other hk), ofW_cons, if_neg hk]
      exact tmv_lose hk0 hs n
theorem rcount_ofW (ws : List Hd) : rcount ws 0 = (ofW ws 0).length := by
  unfold rcount ofW
  rw [List.length_map, ← List.countP_eq_length_filter]; rfl
section
variable {s : MS} {ws : List Hd} {ls : List Ls} {t : Int}
theorem tlf_rng {k worker now : Int} {lost : Bool} : ∀ (ws : List Hd) (n : Nat), ∀ h ∈ tlf k worker now lost ws n, h ∈ ws
  | [], _, _, h => by simp [tlf] at h
  | x :: xs, n, h, hh => by
    rw [tlf] at hh
    split at hh
    · rcases List.mem_cons.1 hh with rfl | hh
      · simp
      · exact List.mem_cons_of_mem _ (tlf_rng xs n h hh)
    · split at hh
      · exact List.mem_cons_of_mem _ (tlf_rng xs _ h hh)
      · split at hh
        · rcases List.mem_cons.1 hh with rfl | hh
          · simp
          · exact List.mem_cons_of_mem _ (tlf_rng xs n h hh)
        · exact List.mem_cons_of_mem _ (tlf_rng xs n h hh)
theorem turn_rng {k worker now : Int} {lost : Bool} {ws : List Hd} (h : ∀ x ∈ ws, 0 ≤ x.worker ∧ x.worker ≤ 64) : ∀ x ∈ turnK k worker now lost ws, 0 ≤ x.worker ∧ x.worker ≤ 64 := by
  intro x hx
  rw [turnK_eq, List.mem_append] at hx
  rcases hx with hx | hx
  · exact h x (tlf_rng ws _ x hx)
  · rw [tmv_worker ws _ x hx]; omega
theorem Sim.exp (h : Sim s ws ls t) (now : Int) : ∀ j, j ≤ 64 → Sim (expT s now j) (rturn 0 now false ws j) ls t
  | 0, _ => by
    refine ⟨h.tok, h.ls, fun k hk => ?_, h.rng⟩
    rw [← show s.q k = ofW (rturn 0 now false ws 0) k from h.q k hk]
    unfold expT
    by_cases hk0 : k = 0
    · subst hk0; rfl
    · simp only [hk0, if_false]; rw [if_neg (by omega)]
  | j + 1, hj => by
    have ih := Sim.exp h now j (by omega)
    have e : rturn 0 now false ws (j + 1) = turnK ((j : Int) + 1) 0 now false (rturn 0 now false ws j) := by rw [rturn, if_neg (by omega)]
    rw [e]
    generalize rturn 0 now false ws j = ws1 at *
    refine ⟨h.tok, h.ls, fun k hk => ?_, turn_rng ih.rng⟩
    have hc : ((j : Int) + 1) = ((j + 1 : Nat) : Int) := by omega
    rw [turnK_eq, hc, ofW_append, rcount_ofW, ← ih.q 0 (by omega)]
    have hq0 : (expT s now j).q 0 = mvAll s now j := by simp [expT]
    have hqj : (expT s now j).q (j + 1) = s.q (j + 1) := by simp [expT, show ¬ j + 1 ≤ j by omega]
    have hT := tmv_exp (k := j + 1) (now := now) ws1 (mvAll s now j).length
    rw [← ih.q (j + 1) hj, hqj] at hT
    rw [hq0]
    by_cases hk0 : k = 0
    · subst hk0
      rw [tlf_other (by omega), ← ih.q 0 (by omega), hq0, ofW_zero (tmv_worker _ _), hT.1]
      simp [expT, mvAll]
    · rw [ofW_none (tmv_worker _ _) hk0, List.append_nil]
      by_cases hkj : k = j + 1
      · subst hkj
        rw [hT.2]
        simp [expT]
      · rw [tlf_other hkj, ← ih.q k hk]
        unfold expT
        simp only [hk0, if_false]
        by_cases h1 : k ≤ j
        · rw [if_pos h1, if_pos (by omega)]
        · rw [if_neg h1, if_neg (by omega)]
theorem rturn_one {z : Nat} (hz0 : z ≠ 0) (now : Int) (lost : Bool) (ws : List Hd) : ∀ j, rturn z now lost ws j = if z ≤ j then turnK z z now lost ws else ws
  | 0 => by rw [if_neg (by omega)]; rfl
  | j + 1 => by
    rw [rturn, rturn_one hz0 now lost ws j]
    by_cases h1 : z = j + 1
    · subst h1
      rw [if_neg (by omega), if_neg (by omega), if_pos (by omega)]; rfl
    · rw [if_pos (by omega)]
      by_cases h2 : z ≤ j
      · rw [if_pos h2, if_pos (by omega)]
      · rw [if_neg h2, if_neg (by omega)]
theorem Sim.loseQ (h : Sim s ws ls t) (hO : One s) (now : Int) {z : Nat} (hz0 : z ≠ 0) (hz : z ≤ 64) : Sim (Go.Proofs.Ytfbolgdecdfnaaa.loseQ s z (s.q z) [] now) (rturn z now true ws 64) ls t := by
  rw [rturn_one hz0, if_pos hz]
  have hm := moved_take now (s.q z) (s.q 0) (fun x hx => hO.fresh hz (by omega) hz0 hx) (hO.apart hz)
  refine ⟨h.tok, h.ls, fun k hk => ?_, turn_rng h.rng⟩
  rw [turnK_eq, ofW_append, rcount_ofW, ← h.q 0 (by omega)]
  have hT := tmv_lose (k := z) hz0 (now := now) ws (s.q 0).length
  rw [← h.q z hz] at hT
  unfold Go.Proofs.Ytfbolgdecdfnaaa.loseQ
  by_cases hk0 : k = 0
  · subst hk0
    rw [tlf_other (Ne.symm hz0), ← h.q 0 (by omega), ofW_zero (tmv_worker _ _), hT.1]
    simp only [MS.setq, if_true]
    exact hm
  · rw [ofW_none (tmv_worker _ _) hk0, List.append_nil]
    simp only [MS.setq, hk0, if_false]
    by_cases hkz : k = z
    · subst hkz
      rw [if_pos rfl, hT.2]
    · rw [if_neg hkz, tlf_other hkz, ← h.q k hk]
end
end Go.Proofs.Ytfbolgdecdfnaaa
