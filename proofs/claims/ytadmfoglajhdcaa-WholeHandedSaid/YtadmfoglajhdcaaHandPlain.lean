/- Plain law of WholeHanded: what is kept of tasks that are handed out, and that in the end each is done. -/
import Derived.Test.YtadmfoglajhdcaaMOne
namespace Go.Proofs.Ytadmfoglajhdcaa
set_option maxRecDepth 4000
set_option linter.unusedVariables false
set_option linter.unusedSimpArgs false
open Go Go.RowKit
/-- how many tasks, waiting or had, are of a kind -/
def cp (f : Int → Int → Int → Bool) (s : MS) : Nat := (waitQ s 64).countP (fun x => f x.run x.kind x.id) + s.ls.countP (fun l => f l.run l.kind l.id)
def dn (f : Int → Int → Int → Bool) (D : List Int) : Nat := D.countP fun r => f r 1 0
theorem cnt_cp (s : MS) (r k i : Int) : cnt s r k i = cp (fun a b c => a == r && b == k && c == i) s := rfl
theorem dn_append (f : Int → Int → Int → Bool) (a b : List Int) : dn f (a ++ b) = dn f a + dn f b := List.countP_append
theorem dn_cons (f : Int → Int → Int → Bool) (r : Int) (b : List Int) : dn f (r :: b) = dn f b + (if f r 1 0 = true then 1 else 0) := List.countP_cons
def rng (n : Nat) : List Int := (List.range n).map fun (i : Nat) => (i : Int)
theorem rng_length (n : Nat) : (rng n).length = n := by simp [rng]
theorem rng_succ (n : Nat) : rng (n + 1) = rng n ++ [(n : Int)] := by simp [rng, List.range_succ]
theorem rng_one (r : Int) : ∀ n, dn (fun a b c => a == r && b == 1 && c == 0) (rng n) ≤ 1 ∧ ((n : Int) ≤ r → dn (fun a b c => a == r && b == 1 && c == 0) (rng n) = 0)
  | 0 => ⟨by simp [rng, dn], fun _ => rfl⟩
  | n + 1 => by
    obtain ⟨h1, h2⟩ := rng_one r n
    rw [rng_succ, dn_append]
    have e : dn (fun a b c => a == r && b == 1 && c == 0) [(n : Int)] = if (n : Int) = r then 1 else 0 := by
      unfold dn
      rw [List.countP_singleton]
      simp
    rw [e]
    constructor
    · split
      · rename_i h
        rw [h2 (by omega)]; exact Nat.le_refl _
      · omega
    · intro h
      rw [h2 (by omega), if_neg (by omega)]
theorem dn_pos {f : Int → Int → Int → Bool} {D : List Int} (h : 0 < dn f D) : ∃ r ∈ D, f r 1 0 = true := by
  unfold dn at h
  rwa [List.countP_pos_iff] at h
theorem dn_mem {f : Int → Int → Int → Bool} {D : List Int} {r : Int} (h : r ∈ D) (hf : f r 1 0 = true) : 0 < dn f D := by
  unfold dn
  rw [List.countP_pos_iff]; exact ⟨r, h, hf⟩
theorem dn_true (D : List Int) : dn (fun _ _ _ => true) D = D.length := by unfold dn; simp
def tot (s : MS) : Nat := (waitQ s 64).length + s.ls.length
theorem tot_cp (s : MS) : cp (fun _ _ _ => true) s = tot s := by unfold cp tot; simp
theorem cp_setq (f : Int → Int → Int → Bool) (s : MS) {k : Nat} (hk : k ≤ 64) (xs : List It) :
    cp f (s.setq k xs) + (s.q k).countP (fun x => f x.run x.kind x.id) = cp f s + xs.countP (fun x => f x.run x.kind x.id) := by
  have := waitQ_setp (fun x => f x.run x.kind x.id) s k xs 64
  rw [if_pos hk, if_pos hk] at this
  unfold cp
  have e : (s.setq k xs).ls = s.ls := rfl
  rw [e]; omega
theorem cp_ls (f : Int → Int → Int → Bool) (s : MS) (ls : List Ls) : cp f { s with ls := ls } + s.ls.countP (fun l => f l.run l.kind l.id) = cp f s + ls.countP (fun l => f l.run l.kind l.id) := by
  have h : waitQ { s with ls := ls } 64 = waitQ s 64 := waitQ_ls _ _ _ _ _ _
  unfold cp
  rw [h]; show _ + ls.countP _ + _ = _; omega
theorem cp_tok (f : Int → Int → Int → Bool) (t : Int) (q : Nat → List It) (ls : List Ls) (t' : Int) : cp f ⟨t, q, ls⟩ = cp f ⟨t', q, ls⟩ := by
  unfold cp
  rw [waitQ_ls t q ls ls t' 64]
theorem q_tot (s : MS) {k : Nat} (hk : k ≤ 64) : (s.q k).length ≤ tot s := by
  have := waitQ_q (fun _ => true) s hk
  unfold tot
  simp only [List.countP_true] at this
  omega
/-- D: those that were done; M: those that were handed back and are to be added again -/
structure HI (s : MS) (D M : List Int) (n : Nat) (N now : Int) : Prop where
  inv : MInv s N now
  now0 : 0 ≤ now
  cov : ∀ f, cp f s + dn f D + dn f M = dn f (rng n)
  out : ∀ k, 5 ≤ k → k ≤ 64 → s.q k = []
  till : ∀ l ∈ s.ls, l.until_ ≤ now + 20
section
variable {s : MS} {D M : List Int} {n : Nat} {N now : Int}
theorem HI.tot_eq (h : HI s D M n N now) : tot s + D.length + M.length = n := by
  have := h.cov (fun _ _ _ => true)
  rw [tot_cp, dn_true, dn_true, dn_true, rng_length] at this
  exact this
theorem cp_wait {f : Int → Int → Int → Bool} {k : Nat} (hk : k ≤ 64) {x : It} (hx : x ∈ s.q k) (hf : f x.run x.kind x.id = true) : 0 < cp f s := by
  have : 0 < (waitQ s 64).countP (fun x => f x.run x.kind x.id) := by rw [List.countP_pos_iff]; exact ⟨x, waitQ_mem.2 ⟨k, hk, hx⟩, hf⟩
  unfold cp; omega
theorem cp_had {f : Int → Int → Int → Bool} {l : Ls} (hl : l ∈ s.ls) (hf : f l.run l.kind l.id = true) : 0 < cp f s := by
  have : 0 < s.ls.countP (fun l => f l.run l.kind l.id) := by rw [List.countP_pos_iff]; exact ⟨l, hl, hf⟩
  unfold cp; omega
theorem HI.key (h : HI s D M n N now) {r k i : Int} (hc : 0 < cp (fun a b c => a == r && b == k && c == i) s) : k = 1 ∧ i = 0 ∧ 0 ≤ r ∧ r < n := by
  have h1 := h.cov (fun a b c => a == r && b == k && c == i)
  obtain ⟨x, hx, hf⟩ := dn_pos (f := fun a b c => a == r && b == k && c == i) (D := rng n) (by omega)
  simp only [Bool.and_eq_true, beq_iff_eq] at hf
  obtain ⟨⟨rfl, rfl⟩, rfl⟩ := hf
  simp only [rng, List.mem_map, List.mem_range] at hx
  obtain ⟨j, hj, rfl⟩ := hx
  exact ⟨rfl, rfl, by omega, by omega⟩
theorem HI.wkey (h : HI s D M n N now) {k : Nat} (hk : k ≤ 64) {x : It} (hx : x ∈ s.q k) : x.kind = 1 ∧ x.id = 0 ∧ 0 ≤ x.run ∧ x.run < n :=
  h.key (cp_wait hk hx (by simp))
theorem HI.lkey (h : HI s D M n N now) {l : Ls} (hl : l ∈ s.ls) : l.kind = 1 ∧ l.id = 0 ∧ 0 ≤ l.run ∧ l.run < n :=
  h.key (cp_had hl (by simp))
/-- one that is there was not done -/
theorem HI.not_done (h : HI s D M n N now) {l : Ls} (hl : l ∈ s.ls) : D.contains l.run = false := by
  rw [Bool.eq_false_iff]
  intro hd
  have hd : l.run ∈ D := by simpa using hd
  obtain ⟨e1, e2, -, -⟩ := h.lkey hl
  have h1 := h.cov (fun a b c => a == l.run && b == 1 && c == 0)
  have h2 := (rng_one l.run n).1
  have h3 : 0 < cp (fun a b c => a == l.run && b == 1 && c == 0) s := cp_had hl (by simp [e1, e2])
  have h4 : 0 < dn (fun a b c => a == l.run && b == 1 && c == 0) D := dn_mem hd (by simp)
  omega
theorem HI.zero (n : Nat) (hn : n ≤ 40) : HI zeroMS [] (rng n) n 0 0 := by
  refine ⟨MInv.zero 0, Int.le_refl _, fun f => ?_, fun _ _ _ => rfl, fun l hl => by simp [zeroMS] at hl⟩
  have : ∀ j, waitQ zeroMS j = [] := fun j => by
    induction j with
    | zero => rfl
    | succ j ih => rw [waitQ, ih]; rfl
  unfold cp
  rw [this]
  simp [zeroMS, dn]
theorem HI.mono (h : HI s D M n N now) {N' : Int} (hN : N ≤ N') : HI s D M n N' now := ⟨h.inv.mono hN (Int.le_refl _), h.now0, h.cov, h.out, h.till⟩
theorem HI.add {r : Int} (h : HI s D (r :: M) n N now) (hn : n ≤ 40) {z : Int} (hz0 : 0 ≤ z) (hz : z ≤ 4) : maddE s r 1 0 z = 0 ∧ HI (madd s r 1 0 z now) D M n N now ∧ (madd s r 1 0 z now).ls = s.ls := by
  have hzn : z.toNat ≤ 64 := by omega
  have hc := h.cov (fun a b c => a == r && b == 1 && c == 0)
  have h2 := rng_one r n
  have h4 : 0 < dn (fun a b c => a == r && b == 1 && c == 0) (r :: M) := dn_mem (r := r) (by simp) (by simp)
  have h0 : cnt s r 1 0 = 0 := by rw [cnt_cp]; omega
  have hr : 0 ≤ r ∧ r < n := by
    obtain ⟨x, hx, hf⟩ := dn_pos (f := fun a b c => a == r && b == 1 && c == 0) (D := rng n) (by omega)
    simp only [Bool.and_eq_true, beq_iff_eq] at hf
    obtain ⟨⟨rfl, -⟩, -⟩ := hf
    simp only [rng, List.mem_map, List.mem_range] at hx
    obtain ⟨j, hj, rfl⟩ := hx
    exact ⟨by omega, by omega⟩
  have hk : s.known r 1 0 = false := by
    rw [Bool.eq_false_iff]
    intro hk
    have := known_iff.1 hk; omega
  have hkc : kc (s.q z.toNat) r 1 0 = 0 := by
    have := waitQ_q (isK · r 1 0) s hzn
    unfold cnt at h0
    unfold kc at *; omega
  have hany : (s.q z.toNat).any (isK · r 1 0) = false := by
    rw [Bool.eq_false_iff]
    intro hh
    have := kc_pos.2 hh; omega
  have hlen : (s.q z.toNat).length < 128 := by
    have h5 := q_tot s hzn
    have h6 := h.tot_eq
    omega
  have hz1 : ¬ (z ≠ 0 ∧ (z < 1 ∨ 64 < z)) := by omega
  have e : madd s r 1 0 z now = s.setq z.toNat (s.q z.toNat ++ [⟨r, 1, 0, now⟩]) := by
    rw [madd, if_neg (by rw [hk]; decide), if_neg hz1, qadd, if_neg (by rw [hany]; decide), if_neg (by omega)]
  refine ⟨by rw [maddE, if_neg (by rw [hk]; decide), if_neg hz1, qaddE, if_neg (by rw [hany]; decide), if_neg (by omega)], ?_, by rw [e]; rfl⟩
  refine ⟨h.inv.add r 1 0 z ⟨by omega, by omega, by omega, by omega, by omega, by omega⟩ h.now0, h.now0, fun f => ?_, fun k h5 hk' => ?_, ?_⟩
  · have h7 := cp_setq f s hzn (s.q z.toNat ++ [⟨r, 1, 0, now⟩])
    rw [List.countP_append, List.countP_singleton] at h7
    have h8 := h.cov f
    rw [dn_cons] at h8
    rw [e]
    simp only at h7
    omega
  · rw [e]
    simp only [MS.setq, show ¬ k = z.toNat by omega, if_false]
    exact h.out k h5 hk'
  · rw [e]; exact h.till
theorem ls_cut {t : Int} (h : (s.ls).Pairwise fun a b => a.tok < b.tok) {l : Ls} (hl : l ∈ s.ls) (ht : l.tok = t) : ∃ a b, s.ls = a ++ l :: b ∧ keepL (fun l => l.tok == t) s.ls = a ++ b := by
  obtain ⟨a, b, hab⟩ := List.append_of_mem hl
  refine ⟨a, b, hab, ?_⟩
  rw [hab] at h ⊢
  rw [List.pairwise_append, List.pairwise_cons] at h
  obtain ⟨h1, ⟨h2, h3⟩, h4⟩ := h
  unfold keepL
  rw [List.filter_append, List.filter_cons, if_neg (by simp [ht]), List.filter_eq_self.2, List.filter_eq_self.2]
  · intro x hx
    have := h2 x hx
    simp; omega
  · intro x hx
    have := h4 x hx l (by simp)
    simp; omega
theorem get_mem {tok now : Int} (h : getE s tok now = 0) : getL s tok now ∈ s.ls ∧ (getL s tok now).tok = tok := by
  unfold getE at h
  unfold getL
  cases hg : s.get tok now with
  | none => rw [hg] at h; cases h
  | some l =>
    unfold MS.get at hg
    have h1 := List.mem_of_find?_eq_some hg
    have h2 := List.find?_some hg
    simp only [Bool.and_eq_true, beq_iff_eq] at h2
    exact ⟨h1, h2.1⟩
theorem HI.fin (h : HI s D [] n N now) {tok : Int} (hg : getE s tok now = 0) :
    D.contains (getL s tok now).run = false ∧ ((s.done tok).ls.length < s.ls.length) ∧ HI (s.done tok) (D ++ [(getL s tok now).run]) [] n N now := by
  obtain ⟨h1, h2⟩ := get_mem hg
  generalize getL s tok now = l at *
  obtain ⟨a, b, e1, e2⟩ := ls_cut h.inv.ltp h1 h2
  obtain ⟨k1, k2, -, -⟩ := h.lkey h1
  have e3 : (s.done tok).ls = a ++ b := by unfold MS.done; exact e2
  refine ⟨h.not_done h1, by rw [e3, e1]; simp, h.inv.less (less_done s tok now) h.now0, h.now0, fun f => ?_, h.out, fun x hx => h.till x ?_⟩
  · have h3 := h.cov f
    have h4 := cp_ls f s (a ++ b)
    have e4 : s.done tok = { s with ls := a ++ b } := by unfold MS.done; rw [e2]
    rw [e4, dn_append, dn_cons]
    have h5 : s.ls.countP (fun l => f l.run l.kind l.id) = (a ++ b).countP (fun l => f l.run l.kind l.id) + (if f l.run 1 0 = true then 1 else 0) := by
      rw [e1, List.countP_append, List.countP_append, List.countP_cons, k1, k2]; omega
    have h6 : dn f [] = 0 := rfl
    omega
  · rw [e3] at hx
    rw [e1]
    rcases List.mem_append.1 hx with hx | hx
    · exact List.mem_append_left _ hx
    · exact List.mem_append_right _ (List.mem_cons_of_mem _ hx)
theorem HI.few (h : HI s D M n N now) (hn : n ≤ 40) : s.ls.length ≤ 40 := by
  have := h.tot_eq
  unfold tot at this; omega
theorem pollS_some {z kind t : Int} {k : Nat} {x : It} (hz : ¬ (z < 1 ∨ 64 < z)) (hl : ¬ 256 ≤ s.ls.length) (hp : s.pick z kind = some (k, x)) :
    pollS s z kind t = ⟨s.tok + 1, (s.setq k (others (s.q k) x.run x.kind x.id)).q, s.ls ++ [⟨s.tok + 1, x.run, x.kind, x.id, z, t + 20⟩]⟩ := by
  rw [pollS, if_neg hz, if_neg hl, hp]
theorem cp_polled (f : Int → Int → Int → Bool) {k : Nat} (hk64 : k ≤ 64) {a b : List It} {x : It} (hab : s.q k = a ++ x :: b) (l : Ls) (h1 : l.run = x.run) (h2 : l.kind = x.kind) (h3 : l.id = x.id) (t : Int) :
    cp f ⟨t, (s.setq k (a ++ b)).q, s.ls ++ [l]⟩ = cp f s := by
  rw [cp_tok f t (s.setq k (a ++ b)).q (s.ls ++ [l]) (s.setq k (a ++ b)).tok]
  have h4 := cp_setq f s hk64 (a ++ b)
  have h5 := cp_ls f (s.setq k (a ++ b)) (s.ls ++ [l])
  have e2 : (s.setq k (a ++ b)).ls = s.ls := rfl
  rw [e2, List.countP_append, List.countP_singleton, h1, h2, h3] at h5
  rw [hab, List.countP_append, List.countP_cons, List.countP_append] at h4
  generalize cp f (s.setq k (a ++ b)) = u at *
  have h6 : cp f { s.setq k (a ++ b) with ls := s.ls ++ [l] } = cp f ⟨(s.setq k (a ++ b)).tok, (s.setq k (a ++ b)).q, s.ls ++ [l]⟩ := rfl
  rw [h6] at h5
  omega
theorem HI.poll (h : HI s D [] n N now) (hn : n ≤ 40) {z : Int} (hz1 : 1 ≤ z) (hz : z ≤ 4) : HI (pollS s z 1 now) D [] n (N + 1) now := by
  have hi := h.inv.poll z 1 now
  have hl := h.few hn
  have hz' : ¬ (z < 1 ∨ 64 < z) := by omega
  have hl' : ¬ 256 ≤ s.ls.length := by omega
  cases hp : s.pick z 1 with
  | none =>
    have e : pollS s z 1 now = s := by rw [pollS, if_neg hz', if_neg hl', hp]
    rw [e] at hi ⊢
    exact ⟨hi, h.now0, h.cov, h.out, h.till⟩
  | some kx =>
    obtain ⟨k, x⟩ := kx
    rw [pollS_some hz' hl' hp] at hi ⊢
    obtain ⟨hx, hxk, hk⟩ := pick_mem hp
    have hk64 : k ≤ 64 := by omega
    obtain ⟨a, b, hab⟩ := List.append_of_mem hx
    have hoth : others (s.q k) x.run x.kind x.id = a ++ b := by
      have := h.inv.one.apart hk64
      rw [hab] at this ⊢
      exact others_at this
    rw [hoth] at hi ⊢
    refine ⟨hi, h.now0, fun f => ?_, fun j h5 hj => ?_, fun l hm => ?_⟩
    · rw [cp_polled f hk64 hab ⟨s.tok + 1, x.run, x.kind, x.id, z, now + 20⟩ rfl rfl rfl (s.tok + 1)]
      exact h.cov f
    · show (if j = k then _ else s.q j) = []
      rw [if_neg (by omega)]
      exact h.out j h5 hj
    · rcases List.mem_append.1 hm with hm | hm
      · exact h.till l hm
      · simp at hm; subst hm; exact Int.le_refl _
theorem q_nil_of {k : Nat} (h : HI s D M n N now) (hk : k ≤ 64) (hf : (s.q k).find? (fun x => x.kind == 1) = none) : s.q k = [] := by
  cases hq : s.q k with
  | nil => rfl
  | cons x xs =>
    rw [List.find?_eq_none] at hf
    have hx : x ∈ s.q k := by rw [hq]; simp
    have := hf x hx
    obtain ⟨e, -⟩ := h.wkey hk hx
    rw [e] at this
    simp at this
/-- nobody was handed anything -/
theorem HI.idle (h : HI s D M n N now) (hn : n ≤ 40) {z : Int} (hz1 : 1 ≤ z) (hz : z ≤ 4) (he : pollE s z 1 ≠ 0) : pollS s z 1 now = s ∧ s.q 0 = [] ∧ s.q z.toNat = [] := by
  have hl := h.few hn
  unfold pollE at he
  rw [if_neg (by omega), if_neg (by omega)] at he
  have hp : s.pick z 1 = none := by
    cases hp : s.pick z 1 with
    | none => rfl
    | some kx => rw [hp] at he; simp at he
  refine ⟨by rw [pollS, if_neg (by omega), if_neg (by omega), hp], ?_⟩
  unfold MS.pick at hp
  split at hp
  · cases hp
  · rename_i h1
    rw [Option.map_eq_none_iff] at hp
    exact ⟨q_nil_of h (by omega) hp, q_nil_of h (by omega) h1⟩
/-- who polls has it at once -/
theorem HI.had (h : HI s D [] n N now) (hn : n ≤ 40) {z : Int} (hz1 : 1 ≤ z) (hz : z ≤ 4) (he : pollE s z 1 = 0) :
    getE (pollS s z 1 now) (pollL s z 1 now).tok now = 0 ∧ ((pollS s z 1 now).done (pollL s z 1 now).tok).ls = s.ls ∧ (pollL s z 1 now).tok = s.tok + 1 := by
  have hl := h.few hn
  unfold pollE at he
  rw [if_neg (by omega), if_neg (by omega)] at he
  unfold pollS pollL
  rw [if_neg (by omega), if_neg (by omega), if_neg (by omega), if_neg (by omega)]
  cases hp : s.pick z 1 with
  | none => rw [hp] at he; simp at he
  | some kx =>
    obtain ⟨k, x⟩ := kx
    simp only
    have hlt := h.inv.lt
    have hnone : ∀ l ∈ s.ls, (l.tok == s.tok + 1) = false := fun l hm => by
      have := hlt l hm
      rw [beq_eq_false_iff_ne]; omega
    refine ⟨?_, ?_, by first | rfl | trivial⟩
    · unfold getE MS.get
      rw [if_pos]
      rw [List.find?_isSome]
      exact ⟨⟨s.tok + 1, x.run, x.kind, x.id, z, now + 20⟩, by simp, by simp; omega⟩
    · unfold MS.done keepL
      simp only
      rw [List.filter_append, List.filter_cons, if_neg (by simp), List.filter_nil, List.append_nil, List.filter_eq_self]
      intro l hm
      rw [hnone l hm]; rfl
/-! ### Lose, Expire -/
theorem cp_lsplit (f : Int → Int → Int → Bool) (p : Ls → Bool) (ls : List Ls) : dn f ((ls.filter p).map (·.run)) = ((ls.filter p).map (·.run)).countP (fun r => f r 1 0) := rfl
theorem split_ls (f : Int → Int → Int → Bool) (p : Ls → Bool) : ∀ (ls : List Ls), (∀ l ∈ ls, l.kind = 1 ∧ l.id = 0) → dn f ((ls.filter p).map (·.run)) + (keepL p ls).countP (fun l => f l.run l.kind l.id) = ls.countP (fun l => f l.run l.kind l.id)
  | [], _ => rfl
  | l :: ls, h => by
    have ih := split_ls f p ls (fun x hx => h x (List.mem_cons_of_mem _ hx))
    obtain ⟨e1, e2⟩ := h l (by simp)
    unfold keepL at *
    rw [List.filter_cons, List.filter_cons, List.countP_cons]
    cases p l
    · simp only [Bool.false_eq_true, if_false, Bool.not_false, if_true, List.countP_cons]
      omega
    · simp only [if_true, Bool.not_true, Bool.false_eq_true, if_false, List.map_cons, dn_cons, e1, e2]
      omega
theorem HI.gone (h : HI s D [] n N now) (s1 : MS) (p : Ls → Bool) {now' : Int} (hnn : now ≤ now') (hm : MInv { s1 with ls := keepL p s.ls } N now') (hc : ∀ f, cp f s1 = cp f s) (hls : s1.ls = s.ls) (ho : ∀ k, 5 ≤ k → k ≤ 64 → s1.q k = []) :
    HI { s1 with ls := keepL p s.ls } D ((s.ls.filter p).map (·.run)) n N now' := by
  refine ⟨hm, Int.le_trans h.now0 hnn, fun f => ?_, ho, fun l hl => ?_⟩
  · have h1 := h.cov f
    have h2 := cp_ls f s1 (keepL p s.ls)
    have h3 := split_ls f p s.ls fun l hl => ⟨(h.lkey hl).1, (h.lkey hl).2.1⟩
    have h4 : dn f [] = 0 := rfl
    rw [hls, hc f] at h2
    omega
  · have := h.till l ((keepL_sub p s.ls).mem hl)
    omega
theorem countP_map_now (f : Int → Int → Int → Bool) (now : Int) (xs : List It) : (xs.map fun x => (⟨x.run, x.kind, x.id, now⟩ : It)).countP (fun x => f x.run x.kind x.id) = xs.countP (fun x => f x.run x.kind x.id) := by
  rw [List.countP_map]; rfl
theorem HI.lose (h : HI s D [] n N now) (hn : n ≤ 40) {z : Int} (hz1 : 1 ≤ z) (hz : z ≤ 4) : HI (s.lose z now) D ((s.lost z).map (·.run)) n N now := by
  have hm := h.inv.less (less_lose h.inv.one z now) h.now0
  unfold MS.lose at hm ⊢
  unfold MS.lost
  have hz' : ¬ (z < 1 ∨ 64 < z) := by omega
  rw [if_neg hz'] at hm ⊢
  rw [if_neg hz']
  obtain ⟨k, hk⟩ : ∃ k, z.toNat = k := ⟨_, rfl⟩
  rw [hk] at hm ⊢
  have hk0 : k ≠ 0 := by omega
  have hk64 : k ≤ 64 := by omega
  have hmv := moved_take now (s.q k) (s.q 0) (fun x hx => h.inv.one.fresh hk64 (by omega) hk0 hx) (h.inv.one.apart hk64)
  have htot := h.tot_eq
  have h2 := waitQ_two (fun _ => true) s (j := k) (k := 0) hk64 (by omega) hk0
  simp only [List.countP_true] at h2
  have hall : (s.q k).take (128 - (s.q 0).length) = s.q k := List.take_of_length_le (by unfold tot at htot; omega)
  rw [hall] at hmv
  refine h.gone _ _ (Int.le_refl _) hm (fun f => ?_) rfl (fun j h5 hj => ?_)
  · unfold loseQ
    rw [hmv]
    have h3 := cp_setq f s hk64 []
    have h4 := cp_setq f (s.setq k []) (k := 0) (by omega) (s.q 0 ++ (s.q k).map fun x => ⟨x.run, x.kind, x.id, now⟩)
    have h5 : (s.setq k []).q 0 = s.q 0 := by simp [MS.setq, Ne.symm hk0]
    rw [h5, List.countP_append, countP_map_now] at h4
    simp only [List.countP_nil] at h3
    omega
  · unfold loseQ
    simp only [MS.setq, show ¬ j = 0 by omega, show ¬ j = k by omega, if_false]
    exact h.out j h5 hj
theorem cp_turn (f : Int → Int → Int → Bool) (now : Int) : ∀ (xs : List It) (n : Nat), (mv now xs n).countP (fun x => f x.run x.kind x.id) + (lf now xs n).countP (fun x => f x.run x.kind x.id) = xs.countP (fun x => f x.run x.kind x.id)
  | [], _ => rfl
  | x :: xs, n => by
    rw [mv, lf]
    split
    · have := cp_turn f now xs (n + 1)
      rw [List.countP_cons, List.countP_cons]
      simp only; omega
    · have := cp_turn f now xs n
      rw [List.countP_cons, List.countP_cons]
      omega
theorem cp_expS (h : One s) (f : Int → Int → Int → Bool) (now : Int) : ∀ j, j ≤ 64 → cp f (expS s now j) = cp f s
  | 0, _ => rfl
  | j + 1, hj => by
    rw [← cp_expS h f now j (by omega), expS]
    have hS := expS_eq h now j (by omega)
    have hq : (expS s now j).q (j + 1) = s.q (j + 1) := by rw [hS]; simp [expT, show ¬ j + 1 ≤ j by omega]
    have h0 : (expS s now j).q 0 = mvAll s now j := by rw [hS]; simp [expT]
    generalize expS s now j = s1 at *
    have hx : expQ (s1.q (j + 1)) now (s1.q 0, s1.q (j + 1)) = (s1.q 0 ++ mv now (s1.q (j + 1)) (s1.q 0).length, lf now (s1.q (j + 1)) (s1.q 0).length) := by
      rw [hq, h0]
      have := expQ_turn now (s.q (j + 1)) (mvAll s now j) [] (fun x hx => ?_) (fun _ _ _ h => by simp at h) (h.apart hj)
      · simpa using this
      · rw [List.any_eq_false]
        intro y hy
        obtain ⟨k, hk, z, hz, e1, e2, e3⟩ := mvAll_mem hy
        have := List.any_eq_false.1 (h.fresh hj (k := k) (by omega) (by omega) hx) z hz
        rw [isK, e1, e2, e3] at this
        exact this
    rw [stI, hx]
    generalize (s1.q 0).length = n
    show cp f ((s1.setq (j + 1) (lf now (s1.q (j + 1)) n)).setq 0 (s1.q 0 ++ mv now (s1.q (j + 1)) n)) = cp f s1
    have h1 := cp_setq f s1 (k := j + 1) hj (lf now (s1.q (j + 1)) n)
    have h2 := cp_setq f (s1.setq (j + 1) (lf now (s1.q (j + 1)) n)) (k := 0) (by omega) (s1.q 0 ++ mv now (s1.q (j + 1)) n)
    have h3 : (s1.setq (j + 1) (lf now (s1.q (j + 1)) n)).q 0 = s1.q 0 := by simp [MS.setq]
    rw [h3, List.countP_append] at h2
    have h4 := cp_turn f now (s1.q (j + 1)) n
    omega
theorem HI.expire (h : HI s D [] n N now) {now' : Int} (hnn : now ≤ now') : HI (s.expire now') D ((s.late now').map (·.run)) n N now' := by
  have hm := (h.inv.mono (Int.le_refl _) hnn).less (less_expire h.inv.one now') (Int.le_trans h.now0 hnn)
  unfold MS.expire at hm ⊢
  unfold MS.late
  refine h.gone _ _ hnn hm (fun f => cp_expS h.inv.one f now' 64 (Nat.le_refl _)) (expS_ls s now' 64) (fun j h5 hj => ?_)
  rw [expS_eq h.inv.one now' 64 (Nat.le_refl _)]
  simp only [expT, show ¬ j = 0 by omega, if_false, hj, if_true]
  rw [h.out j h5 hj]; rfl
/-! ### the last two hundred rounds -/
/-- behind the polls of w workers in a round -/
def RI (ls0 : List Ls) (d0 : Nat) (w : Nat) (s : MS) (D : List Int) : Prop := s.ls = ls0 ∧ (d0 < D.length ∨ (D.length = d0 ∧ ∀ j, j ≤ w → 1 ≤ w → s.q j = []))
theorem RI.start (s : MS) (D : List Int) : RI s.ls D.length 0 s D := ⟨rfl, Or.inr ⟨rfl, fun j _ h => by omega⟩⟩
theorem RI.idle {ls0 : List Ls} {d0 w : Nat} (h : HI s D [] n N now) (hn : n ≤ 40) (hr : RI ls0 d0 w s D) (hw : w < 4) (he : pollE s ((w : Int) + 1) 1 ≠ 0) : pollS s ((w : Int) + 1) 1 now = s ∧ RI ls0 d0 (w + 1) s D := by
  obtain ⟨h1, h2, h3⟩ := h.idle hn (z := (w : Int) + 1) (by omega) (by omega) he
  refine ⟨h1, hr.1, ?_⟩
  rcases hr.2 with h4 | ⟨h4, h5⟩
  · exact Or.inl h4
  · refine Or.inr ⟨h4, fun j hj _ => ?_⟩
    by_cases hj0 : j = 0
    · subst hj0; exact h2
    · by_cases hjw : j = w + 1
      · subst hjw
        rw [show ((w : Int) + 1).toNat = w + 1 by omega] at h3
        exact h3
      · exact h5 j (by omega) (by omega)
theorem RI.took {ls0 : List Ls} {d0 w : Nat} (h : HI s D [] n N now) (hn : n ≤ 40) (hr : RI ls0 d0 w s D) (hw : w < 4) (he : pollE s ((w : Int) + 1) 1 = 0) (r : Int) :
    RI ls0 d0 (w + 1) ((pollS s ((w : Int) + 1) 1 now).done (pollL s ((w : Int) + 1) 1 now).tok) (D ++ [r]) := by
  obtain ⟨h1, h2, h3⟩ := h.had hn (z := (w : Int) + 1) (by omega) (by omega) he
  refine ⟨h2.trans hr.1, Or.inl ?_⟩
  rw [List.length_append]
  rcases hr.2 with h4 | ⟨h4, _⟩ <;> simp <;> omega
theorem waitQ_nil (h : ∀ k, k ≤ 64 → s.q k = []) : ∀ j, j ≤ 64 → waitQ s j = []
  | 0, _ => h 0 (by omega)
  | j + 1, hj => by rw [waitQ, waitQ_nil h j (by omega), h _ hj]; rfl
/-- at the head of the last rounds -/
structure FI (s : MS) (D : List Int) (n : Nat) (N now t0 : Int) (k : Nat) : Prop where
  hi : HI s D [] n N now
  t : now = t0 + k
  old : ∀ l ∈ s.ls, l.until_ ≤ t0 + 20
  few : 20 ≤ k → s.ls = [] ∧ (D.length = n ∨ n + (k - 20) ≤ 40 + D.length)
theorem FI.start (h : HI s D [] n N now) : FI s D n N now now 0 := ⟨h, by omega, h.till, fun h => by omega⟩
/-- behind all four workers' polls and Expire, before what came back is added again -/
structure FM (s : MS) (D M : List Int) (n : Nat) (N now t0 : Int) (k : Nat) : Prop where
  hi : HI s D M n N now
  t : now = t0 + k
  old : ∀ l ∈ s.ls, l.until_ ≤ t0 + 20
  few : 20 ≤ k → s.ls = [] ∧ (D.length = n ∨ n + (k - 20) ≤ 40 + D.length)
theorem FM.add {t0 : Int} {k : Nat} {r : Int} (h : FM s D (r :: M) n N now t0 k) (hn : n ≤ 40) : FM (madd s r 1 0 0 now) D M n N now t0 k := by
  obtain ⟨-, h1, h2⟩ := h.hi.add hn (z := 0) (by omega) (by omega)
  exact ⟨h1, h.t, by rw [h2]; exact h.old, by rw [h2]; exact h.few⟩
theorem FM.done {t0 : Int} {k : Nat} (h : FM s D [] n N now t0 k) : FI s D n N now t0 k := ⟨h.hi, h.t, h.old, h.few⟩
theorem FI.round {s0 : MS} {D0 : List Int} {N0 t0 : Int} {k : Nat} (h0 : FI s0 D0 n N0 now t0 k) (hn : n ≤ 40) (h : HI s D [] n N now) (hr : RI s0.ls D0.length 4 s D) : FM (s.expire (now + 1)) D ((s.late (now + 1)).map (·.run)) n N (now + 1) t0 (k + 1) := by
  have ht := h0.t
  refine ⟨h.expire (by omega), by omega, fun l hl => h0.old l ?_, fun hk => ?_⟩
  · unfold MS.expire at hl
    have := (keepL_sub _ _).mem hl
    rwa [hr.1] at this
  · have hls : (s.expire (now + 1)).ls = [] := by
      unfold MS.expire keepL
      simp only
      rw [List.filter_eq_nil_iff, hr.1]
      intro l hl
      have := h0.old l hl
      simp; omega
    refine ⟨hls, ?_⟩
    have htot := h.tot_eq
    simp only [List.length_nil] at htot
    have h0t := h0.hi.tot_eq
    simp only [List.length_nil] at h0t
    rcases hr.2 with h1 | ⟨h1, h2⟩
    · rcases Nat.lt_or_ge k 20 with hk2 | hk2
      · right; omega
      · rcases (h0.few hk2).2 with h3 | h3 <;> omega
    · have hq : waitQ s 64 = [] := waitQ_nil (fun j hj => by
        rcases Nat.lt_or_ge 4 j with h5 | h5
        · exact h.out j h5 hj
        · exact h2 j h5 (by omega)) 64 (Nat.le_refl _)
      rcases Nat.lt_or_ge k 20 with hk2 | hk2
      · right; omega
      · left
        have h4 := (h0.few hk2).1
        unfold tot at htot
        rw [hq, hr.1, h4] at htot
        simpa using htot
theorem FI.last {t0 : Int} (h : FI s D n N now t0 200) (hn : n ≤ 40) : D.length = n ∧ (waitQ s 64).length = 0 ∧ s.ls.length = 0 := by
  have htot := h.hi.tot_eq
  simp only [List.length_nil] at htot
  obtain ⟨h1, h2⟩ := h.few (by omega)
  have : D.length = n := by omega
  unfold tot at htot
  omega
end
end Go.Proofs.Ytadmfoglajhdcaa
