/- Plain facts about matches: how often a task is there; what Expire and Lose move. -/
import Derived.Test.YtadmfoglajhdcaaMHas
namespace Go.Proofs.Ytadmfoglajhdcaa
set_option maxRecDepth 4000
set_option linter.unusedVariables false
set_option linter.unusedSimpArgs false
open Go Go.RowKit
/-! ### how often a task is there -/
abbrev kc (xs : List It) (r k i : Int) : Nat := xs.countP (isK · r k i)
abbrev lc (ls : List Ls) (r k i : Int) : Nat := ls.countP (isL · r k i)
def cnt (s : MS) (r k i : Int) : Nat := kc (waitQ s 64) r k i + lc s.ls r k i
def One (s : MS) : Prop := ∀ r k i, cnt s r k i ≤ 1
theorem waitQ_setp (p : It → Bool) (s : MS) (k : Nat) (xs : List It) : ∀ j, (waitQ (s.setq k xs) j).countP p + (if k ≤ j then (s.q k).countP p else 0) = (waitQ s j).countP p + (if k ≤ j then xs.countP p else 0)
  | 0 => by
    unfold waitQ MS.setq
    by_cases h : k = 0
    · subst h; simp; omega
    · rw [if_neg (by omega), if_neg (by omega)]
      simp [Ne.symm h]
  | j + 1 => by
    have ih := waitQ_setp p s k xs j
    rw [waitQ, waitQ, List.countP_append, List.countP_append]
    by_cases h : k = j + 1
    · subst h
      rw [if_neg (by omega), if_neg (by omega)] at ih
      have : ((s.setq (j + 1) xs).q (j + 1)) = xs := by simp [MS.setq]
      rw [this]
      simp; omega
    · have : ((s.setq k xs).q (j + 1)) = s.q (j + 1) := by simp [MS.setq, Ne.symm h]
      rw [this]
      by_cases h2 : k ≤ j
      · rw [if_pos h2, if_pos h2] at ih
        rw [if_pos (by omega), if_pos (by omega)]
        omega
      · rw [if_neg h2, if_neg h2] at ih
        rw [if_neg (by omega), if_neg (by omega)]
        omega
theorem cnt_setq (s : MS) {k : Nat} (hk : k ≤ 64) (xs : List It) (r c i : Int) : cnt (s.setq k xs) r c i + kc (s.q k) r c i = cnt s r c i + kc xs r c i := by
  have := waitQ_setp (isK · r c i) s k xs 64
  rw [if_pos hk, if_pos hk] at this
  unfold cnt kc
  have e : (s.setq k xs).ls = s.ls := rfl
  rw [e]; omega
theorem waitQ_ls (t : Int) (q : Nat → List It) (ls ls' : List Ls) (t' : Int) : ∀ j, waitQ ⟨t, q, ls⟩ j = waitQ ⟨t', q, ls'⟩ j
  | 0 => rfl
  | j + 1 => by rw [waitQ, waitQ, waitQ_ls t q ls ls' t' j]
theorem waitQ_mem {s : MS} {x : It} : ∀ {j}, x ∈ waitQ s j ↔ ∃ k, k ≤ j ∧ x ∈ s.q k
  | 0 => by
    rw [waitQ]
    constructor
    · exact fun h => ⟨0, Nat.le_refl _, h⟩
    · rintro ⟨k, hk, h⟩
      rw [show k = 0 by omega] at h
      exact h
  | j + 1 => by
    rw [waitQ, List.mem_append, waitQ_mem]
    constructor
    · rintro (⟨k, hk, h⟩ | h)
      · exact ⟨k, by omega, h⟩
      · exact ⟨j + 1, Nat.le_refl _, h⟩
    · rintro ⟨k, hk, h⟩
      rcases Nat.lt_or_ge k (j + 1) with h1 | h1
      · exact Or.inl ⟨k, by omega, h⟩
      · obtain rfl : k = j + 1 := by omega
        exact Or.inr h
theorem kc_pos {xs : List It} {r k i : Int} : 0 < kc xs r k i ↔ xs.any (isK · r k i) = true := by
  unfold kc
  rw [List.countP_pos_iff, List.any_eq_true]
theorem lc_pos {xs : List Ls} {r k i : Int} : 0 < lc xs r k i ↔ xs.any (isL · r k i) = true := by
  unfold lc
  rw [List.countP_pos_iff, List.any_eq_true]
theorem kc_zero {xs : List It} {r k i : Int} (h : xs.any (isK · r k i) = false) : kc xs r k i = 0 := by
  rcases Nat.eq_zero_or_pos (kc xs r k i) with h1 | h1
  · exact h1
  · rw [kc_pos.1 h1] at h; cases h
theorem lc_zero {xs : List Ls} {r k i : Int} (h : xs.any (isL · r k i) = false) : lc xs r k i = 0 := by
  rcases Nat.eq_zero_or_pos (lc xs r k i) with h1 | h1
  · exact h1
  · rw [lc_pos.1 h1] at h; cases h
theorem isK_self (x : It) : isK x x.run x.kind x.id = true := isK_iff.2 ⟨rfl, rfl, rfl⟩
theorem isL_self (x : Ls) : isL x x.run x.kind x.id = true := isL_iff.2 ⟨rfl, rfl, rfl⟩
theorem kc_mem {xs : List It} {x : It} (h : x ∈ xs) : 0 < kc xs x.run x.kind x.id := kc_pos.2 (List.any_eq_true.2 ⟨x, h, isK_self x⟩)
theorem lc_mem {xs : List Ls} {x : Ls} (h : x ∈ xs) : 0 < lc xs x.run x.kind x.id := lc_pos.2 (List.any_eq_true.2 ⟨x, h, isL_self x⟩)
/-- a queue's part of the count -/
theorem waitQ_part (p : It → Bool) (s : MS) {k : Nat} (hk : k ≤ 64) : (waitQ (s.setq k []) 64).countP p + (s.q k).countP p = (waitQ s 64).countP p := by
  have := waitQ_setp p s k [] 64
  rw [if_pos hk, if_pos hk] at this
  simpa using this
theorem waitQ_q (p : It → Bool) (s : MS) {k : Nat} (hk : k ≤ 64) : (s.q k).countP p ≤ (waitQ s 64).countP p := by
  have := waitQ_part p s hk; omega
theorem waitQ_two (p : It → Bool) (s : MS) {j k : Nat} (hj : j ≤ 64) (hk : k ≤ 64) (hne : j ≠ k) : (s.q j).countP p + (s.q k).countP p ≤ (waitQ s 64).countP p := by
  have h1 := waitQ_part p s hj
  have h2 := waitQ_q p (s.setq j []) hk
  have h3 : (s.setq j []).q k = s.q k := by simp [MS.setq, Ne.symm hne]
  rw [h3] at h2
  omega
theorem where_some {s : MS} {r k i : Int} : (s.where_ r k i).isSome = true ↔ 0 < kc (waitQ s 64) r k i := by
  rw [kc_pos, List.any_eq_true]
  unfold MS.where_
  rw [List.find?_isSome]
  constructor
  · rintro ⟨j, hj, h⟩
    rw [List.any_eq_true] at h
    obtain ⟨x, hx, hp⟩ := h
    exact ⟨x, waitQ_mem.2 ⟨j, by have := List.mem_range.1 hj; omega, hx⟩, hp⟩
  · rintro ⟨x, hx, hp⟩
    obtain ⟨j, hj, hx⟩ := waitQ_mem.1 hx
    exact ⟨j, List.mem_range.2 (by omega), List.any_eq_true.2 ⟨x, hx, hp⟩⟩
theorem known_iff {s : MS} {r k i : Int} : s.known r k i = true ↔ 0 < cnt s r k i := by
  unfold MS.known MS.had cnt
  rw [Bool.or_eq_true, where_some, ← lc_pos]; omega
theorem known_false {s : MS} {r k i : Int} (h : s.known r k i = false) : cnt s r k i = 0 := by
  rcases Nat.eq_zero_or_pos (cnt s r k i) with h1 | h1
  · exact h1
  · rw [known_iff.2 h1] at h; cases h
/-- tasks that are not the same -/
theorem apart_of {xs : List It} (h : ∀ r k i, kc xs r k i ≤ 1) : xs.Pairwise fun a b => isK a b.run b.kind b.id = false := by
  induction xs with
  | nil => exact List.Pairwise.nil
  | cons x xs ih =>
    refine List.Pairwise.cons (fun y hy => ?_) (ih fun r k i => ?_)
    · have h1 := h y.run y.kind y.id
      have h2 := kc_mem hy
      unfold kc at h1 h2
      rw [List.countP_cons] at h1
      cases hx : isK x y.run y.kind y.id with
      | false => rfl
      | true => rw [if_pos hx] at h1; omega
    · have h1 := h r k i
      unfold kc at h1 ⊢
      rw [List.countP_cons] at h1
      omega
section
variable {s : MS} (h : One s)
include h
theorem One.q {j : Nat} (hj : j ≤ 64) (r k i : Int) : kc (s.q j) r k i ≤ 1 := by
  have h1 := h r k i
  have h2 := waitQ_q (isK · r k i) s hj
  unfold cnt kc at *; omega
theorem One.apart {j : Nat} (hj : j ≤ 64) : (s.q j).Pairwise fun a b => isK a b.run b.kind b.id = false := apart_of (h.q hj)
theorem One.fresh {j k : Nat} (hj : j ≤ 64) (hk : k ≤ 64) (hne : j ≠ k) {x : It} (hx : x ∈ s.q j) : (s.q k).any (isK · x.run x.kind x.id) = false := by
  rw [Bool.eq_false_iff]
  intro h0
  have h1 := h x.run x.kind x.id
  have h2 := waitQ_two (isK · x.run x.kind x.id) s hj hk hne
  have h3 := kc_mem hx
  have h4 := kc_pos.2 h0
  unfold cnt kc at *; omega
theorem One.wait {x : It} (hx : x ∈ waitQ s 64) : s.ls.any (isL · x.run x.kind x.id) = false := by
  rw [Bool.eq_false_iff]
  intro h0
  have h1 := h x.run x.kind x.id
  have h3 := kc_mem hx
  have h4 := lc_pos.2 h0
  unfold cnt at *; omega
theorem One.lease {l : Ls} (hl : l ∈ s.ls) : (waitQ s 64).any (isK · l.run l.kind l.id) = false := by
  rw [Bool.eq_false_iff]
  intro h0
  have h1 := h l.run l.kind l.id
  have h3 := lc_mem hl
  have h4 := kc_pos.2 h0
  unfold cnt at *; omega
end
/-! ### what Expire moves -/
theorem isK_symm {x y : It} (h : isK x y.run y.kind y.id = false) : isK y x.run x.kind x.id = false := by
  rw [Bool.eq_false_iff] at *
  intro h4
  rw [isK_iff] at h4
  exact h (isK_iff.2 ⟨h4.1.symm, h4.2.1.symm, h4.2.2.symm⟩)
def mv (now : Int) : List It → Nat → List It
  | [], _ => []
  | x :: xs, n => if 5 ≤ now - x.since ∧ n < 128 then ⟨x.run, x.kind, x.id, now⟩ :: mv now xs (n + 1) else mv now xs n
def lf (now : Int) : List It → Nat → List It
  | [], _ => []
  | x :: xs, n => if 5 ≤ now - x.since ∧ n < 128 then lf now xs (n + 1) else x :: lf now xs n
theorem expQ_turn (now : Int) : ∀ (xs o a : List It), (∀ x ∈ xs, o.any (isK · x.run x.kind x.id) = false) → (∀ x ∈ xs, ∀ y ∈ a, isK y x.run x.kind x.id = false) → (xs.Pairwise fun a b => isK a b.run b.kind b.id = false) →
    expQ xs now (o, a ++ xs) = (o ++ mv now xs o.length, a ++ lf now xs o.length)
  | [], o, a, _, _, _ => by simp [expQ, mv, lf]
  | x :: xs, o, a, ho, ha, hp => by
    rw [List.pairwise_cons] at hp
    have hx := ho x (by simp)
    have step : expQ (x :: xs) now (o, a ++ x :: xs) = expQ xs now (expOne now (o, a ++ x :: xs) x) := rfl
    rw [step, mv, lf]
    by_cases hd : 5 ≤ now - x.since
    · by_cases hn : o.length < 128
      · rw [if_pos ⟨hd, hn⟩, if_pos ⟨hd, hn⟩]
        have hE : qaddE o x.run x.kind x.id = 0 := by rw [qaddE, if_neg (by rw [hx]; decide), if_neg (by omega)]
        have hq : qadd o x.run x.kind x.id now = o ++ [⟨x.run, x.kind, x.id, now⟩] := by rw [qadd, if_neg (by rw [hx]; decide), if_neg (by omega)]
        have hoth : others (a ++ x :: xs) x.run x.kind x.id = a ++ xs := by
          unfold others
          rw [List.filter_append, List.filter_cons, if_neg (by rw [isK_self]; decide), List.filter_eq_self.2 (fun y hy => by rw [ha x (by simp) y hy]; rfl), List.filter_eq_self.2 (fun y hy => by rw [isK_symm (hp.1 y hy)]; rfl)]
        rw [expOne, if_pos hd]
        simp only
        rw [hE, if_pos rfl, hq, hoth, expQ_turn now xs _ a ?_ (fun y hy => ha y (by simp [hy])) hp.2]
        · simp
        · intro y hy
          rw [List.any_append, ho y (by simp [hy])]
          have := hp.1 y hy
          simpa [isK] using this
      · rw [if_neg (by omega), if_neg (by omega)]
        have hE : qaddE o x.run x.kind x.id = 3 := by rw [qaddE, if_neg (by rw [hx]; decide), if_pos (by omega)]
        have hq : qadd o x.run x.kind x.id now = o := by rw [qadd, if_neg (by rw [hx]; decide), if_pos (by omega)]
        rw [expOne, if_pos hd]
        simp only
        rw [hE, if_neg (by decide), hq]
        have := expQ_turn now xs o (a ++ [x]) (fun y hy => ho y (by simp [hy])) (fun y hy z hz => ?_) hp.2
        · simpa using this
        · rcases List.mem_append.1 hz with h | h
          · exact ha y (by simp [hy]) z h
          · simp at h; subst h; exact hp.1 y hy
    · rw [if_neg (by omega), if_neg (by omega), expOne, if_neg hd]
      have := expQ_turn now xs o (a ++ [x]) (fun y hy => ho y (by simp [hy])) (fun y hy z hz => ?_) hp.2
      · simpa using this
      · rcases List.mem_append.1 hz with h | h
        · exact ha y (by simp [hy]) z h
        · simp at h; subst h; exact hp.1 y hy
/-- the open queue, behind the first j workers' -/
def mvAll (s : MS) (now : Int) : Nat → List It
  | 0 => s.q 0
  | j + 1 => mvAll s now j ++ mv now (s.q (j + 1)) (mvAll s now j).length
def expT (s : MS) (now : Int) (j : Nat) : MS := { s with q := fun k => if k = 0 then mvAll s now j else if k ≤ j then lf now (s.q k) (mvAll s now (k - 1)).length else s.q k }
theorem mv_mem {now : Int} : ∀ {xs : List It} {n : Nat} {y : It}, y ∈ mv now xs n → ∃ x ∈ xs, x.run = y.run ∧ x.kind = y.kind ∧ x.id = y.id ∧ y.since = now
  | [], _, _, h => by simp [mv] at h
  | x :: xs, n, y, h => by
    rw [mv] at h
    split at h
    · rcases List.mem_cons.1 h with rfl | h
      · exact ⟨x, by simp, rfl, rfl, rfl, rfl⟩
      · obtain ⟨z, hz, e⟩ := mv_mem h
        exact ⟨z, by simp [hz], e⟩
    · obtain ⟨z, hz, e⟩ := mv_mem h
      exact ⟨z, by simp [hz], e⟩
theorem lf_mem {now : Int} : ∀ {xs : List It} {n : Nat} {y : It}, y ∈ lf now xs n → y ∈ xs
  | [], _, _, h => by simp [lf] at h
  | x :: xs, n, y, h => by
    rw [lf] at h
    split at h
    · exact List.mem_cons_of_mem _ (lf_mem h)
    · rcases List.mem_cons.1 h with rfl | h
      · simp
      · exact List.mem_cons_of_mem _ (lf_mem h)
theorem kc_turn (now : Int) (r k i : Int) : ∀ (xs : List It) (n : Nat), kc (mv now xs n) r k i + kc (lf now xs n) r k i = kc xs r k i
  | [], _ => rfl
  | x :: xs, n => by
    rw [mv, lf]
    unfold kc at *
    split
    · have := kc_turn now r k i xs (n + 1)
      unfold kc at this
      rw [List.countP_cons, List.countP_cons]
      have e : isK ⟨x.run, x.kind, x.id, now⟩ r k i = isK x r k i := rfl
      rw [e]; omega
    · have := kc_turn now r k i xs n
      unfold kc at this
      rw [List.countP_cons, List.countP_cons]
      omega
theorem mvAll_mem {s : MS} {now : Int} : ∀ {j : Nat} {y : It}, y ∈ mvAll s now j → ∃ k, k ≤ j ∧ ∃ x ∈ s.q k, x.run = y.run ∧ x.kind = y.kind ∧ x.id = y.id
  | 0, y, h => ⟨0, Nat.le_refl _, y, h, rfl, rfl, rfl⟩
  | j + 1, y, h => by
    rw [mvAll] at h
    rcases List.mem_append.1 h with h | h
    · obtain ⟨k, hk, e⟩ := mvAll_mem h
      exact ⟨k, by omega, e⟩
    · obtain ⟨x, hx, e1, e2, e3, _⟩ := mv_mem h
      exact ⟨j + 1, Nat.le_refl _, x, hx, e1, e2, e3⟩
theorem expS_eq {s : MS} (h : One s) (now : Int) : ∀ j, j ≤ 64 → expS s now j = expT s now j
  | 0, _ => by
    unfold expS expT
    have : (fun k => if k = 0 then mvAll s now 0 else if k ≤ 0 then lf now (s.q k) (mvAll s now (k - 1)).length else s.q k) = s.q := by
      funext k
      by_cases hk : k = 0
      · subst hk; simp [mvAll]
      · rw [if_neg hk, if_neg (by omega)]
    rw [this]
  | j + 1, hj => by
    rw [expS, expS_eq h now j (by omega), stI]
    have hq : (expT s now j).q (j + 1) = s.q (j + 1) := by simp [expT, show ¬ j + 1 ≤ j by omega]
    have h0 : (expT s now j).q 0 = mvAll s now j := by simp [expT]
    rw [hq, h0]
    have hx : expQ (s.q (j + 1)) now (mvAll s now j, s.q (j + 1)) = (mvAll s now j ++ mv now (s.q (j + 1)) (mvAll s now j).length, lf now (s.q (j + 1)) (mvAll s now j).length) := by
      have := expQ_turn now (s.q (j + 1)) (mvAll s now j) [] (fun x hx => ?_) (fun _ _ _ h => by simp at h) (h.apart hj)
      · simpa using this
      · rw [List.any_eq_false]
        intro y hy
        obtain ⟨k, hk, z, hz, e1, e2, e3⟩ := mvAll_mem hy
        have := List.any_eq_false.1 (h.fresh hj (k := k) (by omega) (by omega) hx) z hz
        rw [isK, e1, e2, e3] at this
        exact this
    rw [hx]
    unfold expT
    simp only [MS.setq, MS.mk.injEq, true_and, and_true]
    funext k
    by_cases h1 : k = 0
    · simp [h1, mvAll]
    · by_cases h2 : k = j + 1
      · subst h2; simp
      · simp only [h1, h2, if_false]
        by_cases h3 : k ≤ j
        · rw [if_pos h3, if_pos (by omega)]
        · rw [if_neg h3, if_neg (by omega)]
/-! ### what Lose moves -/
theorem moved_take (now : Int) : ∀ (xs o : List It), (∀ x ∈ xs, o.any (isK · x.run x.kind x.id) = false) → (xs.Pairwise fun a b => isK a b.run b.kind b.id = false) →
    moved xs o now = o ++ (xs.take (128 - o.length)).map (fun x => ⟨x.run, x.kind, x.id, now⟩)
  | [], o, _, _ => by simp [moved]
  | x :: xs, o, ho, hp => by
    rw [List.pairwise_cons] at hp
    have hx := ho x (by simp)
    have step : moved (x :: xs) o now = moved xs (qadd o x.run x.kind x.id now) now := rfl
    rw [step]
    by_cases hn : o.length < 128
    · have hq : qadd o x.run x.kind x.id now = o ++ [⟨x.run, x.kind, x.id, now⟩] := by rw [qadd, if_neg (by rw [hx]; decide), if_neg (by omega)]
      obtain ⟨m, hm⟩ : ∃ m, 128 - o.length = m + 1 := ⟨127 - o.length, by omega⟩
      rw [hq, moved_take now xs _ ?_ hp.2, hm, List.take_succ_cons, List.map_cons]
      · have e : 128 - (o ++ [(⟨x.run, x.kind, x.id, now⟩ : It)]).length = m := by simp; omega
        rw [e]; simp
      · intro y hy
        rw [List.any_append, ho y (by simp [hy])]
        have := hp.1 y hy
        simpa [isK] using this
    · have hq : qadd o x.run x.kind x.id now = o := by rw [qadd, if_neg (by rw [hx]; decide), if_pos (by omega)]
      rw [hq, moved_take now xs o (fun y hy => ho y (by simp [hy])) hp.2, show 128 - o.length = 0 by omega]
      simp
end Go.Proofs.Ytadmfoglajhdcaa
