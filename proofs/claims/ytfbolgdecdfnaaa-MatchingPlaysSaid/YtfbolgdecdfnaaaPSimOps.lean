/- Each call keeps the document's matches and the program's like each other: the plain law. -/
import Derived.Test.YtfbolgdecdfnaaaPTurnSim
namespace Go.Proofs.Ytfbolgdecdfnaaa
set_option maxRecDepth 4000
set_option linter.unusedVariables false
set_option linter.unusedSimpArgs false
open Go Go.RowKit
section
variable {s : MS} {ws : List Hd} {ls : List Ls} {t : Int}
theorem Sim.addE (h : Sim s ws ls t) (r k i z : Int) : maddE s r k i z = raddE ws ls r k i z := by
  unfold maddE raddE
  rw [h.known]
  by_cases hk : rknown ws ls r k i = true
  · rw [if_pos hk, if_pos hk]
  · rw [if_neg hk, if_neg hk]
    by_cases hz : z < 0 ∨ 64 < z
    · rw [if_pos hz, if_pos (by omega)]
    · rw [if_neg hz, if_neg (by omega)]
      have h0 := known_false (s := s) (r := r) (k := k) (i := i) (by rw [h.known]; simpa using hk)
      have h1 := waitQ_q (isK · r k i) s (k := z.toNat) (by omega)
      have h2 : kc (s.q z.toNat) r k i = 0 := by unfold cnt kc at *; omega
      have h3 : (s.q z.toNat).any (isK · r k i) = false := by
        rw [Bool.eq_false_iff]
        intro h4
        have := kc_pos.2 h4
        omega
      have hc := h.count (z := z.toNat) (by omega)
      rw [show ((z.toNat : Nat) : Int) = z by omega] at hc
      rw [qaddE, if_neg (by rw [h3]; decide), hc]
theorem Sim.add (h : Sim s ws ls t) (r k i z now : Int) : Sim (madd s r k i z now) (radd ws ls r k i z now) ls t := by
  have hE := h.addE r k i z
  unfold radd
  rw [← hE]
  unfold madd maddE
  by_cases hk : s.known r k i = true
  · rw [if_pos hk, if_pos hk, if_neg (by decide)]; exact h
  · rw [if_neg hk, if_neg hk]
    by_cases hz : z ≠ 0 ∧ (z < 1 ∨ 64 < z)
    · rw [if_pos hz, if_pos hz, if_neg (by decide)]; exact h
    · rw [if_neg hz, if_neg hz]
      unfold qaddE qadd
      split
      · rw [if_neg (by decide), MS.setq_same]; exact h
      · split
        · rw [if_neg (by decide), MS.setq_same]; exact h
        · rw [if_pos rfl]
          refine ⟨h.tok, h.ls, fun j hj => ?_, fun x hx => ?_⟩
          · rw [ofW_append, ofW_cons]
            have hn : ofW [] j = [] := rfl
            rw [hn]
            by_cases hjz : j = z.toNat
            · subst hjz
              rw [if_pos (show z = ((z.toNat : Nat) : Int) by omega), ← h.q _ hj]
              simp [MS.setq, Hd.it]
            · rw [if_neg (show ¬ z = (j : Int) by omega), List.append_nil, ← h.q j hj]
              simp [MS.setq, hjz]
          · rcases List.mem_append.1 hx with hx | hx
            · exact h.rng x hx
            · simp at hx; subst hx; show 0 ≤ z ∧ z ≤ 64; omega
theorem splitH_spec {p : Hd → Bool} : ∀ {ws : List Hd} {a : List Hd} {x : Hd} {b : List Hd}, splitH p ws = some (a, x, b) → ws = a ++ x :: b ∧ p x = true
  | [], _, _, _, h => by simp [splitH] at h
  | y :: ys, a, x, b, h => by
    rw [splitH] at h
    split at h
    · rename_i hp
      simp only [Option.some.injEq, Prod.mk.injEq] at h
      obtain ⟨rfl, rfl, rfl⟩ := h
      exact ⟨rfl, hp⟩
    · obtain ⟨r, hr, he⟩ := Option.map_eq_some_iff.1 h
      obtain ⟨a', x', b'⟩ := r
      simp only [Prod.mk.injEq] at he
      obtain ⟨rfl, rfl, rfl⟩ := he
      obtain ⟨h1, h2⟩ := splitH_spec hr
      exact ⟨by rw [h1]; rfl, h2⟩
theorem find_split (k : Nat) (kind : Int) : ∀ ws : List Hd, (ofW ws k).find? (fun x => x.kind == kind) = (splitH (wants k kind) ws).map fun r => r.2.1.it
  | [] => rfl
  | h :: hs => by
    rw [ofW_cons, splitH]
    by_cases hk : h.worker = (k : Int)
    · rw [if_pos hk, List.find?_cons]
      by_cases hd : h.kind = kind
      · have h1 : wants k kind h = true := by unfold wants; simp [hk, hd]
        have h2 : (h.it.kind == kind) = true := by show (h.kind == kind) = true; simpa using hd
        rw [if_pos h1, h2]; rfl
      · have h1 : ¬ wants k kind h = true := by unfold wants; simp [hd]
        have h2 : (h.it.kind == kind) = false := by show (h.kind == kind) = false; simpa using hd
        rw [if_neg h1, h2, find_split k kind hs]
        simp [Option.map_map, Function.comp_def]
    · have h1 : ¬ wants k kind h = true := by unfold wants; simp [hk]
      rw [if_neg hk, if_neg h1, find_split k kind hs]
      simp [Option.map_map, Function.comp_def]
theorem Sim.pick (h : Sim s ws ls t) {z : Int} (hz1 : 1 ≤ z) (hz2 : z ≤ 64) (kind : Int) : s.pick z kind = match splitH (wants z kind) ws with
    | some r => some (z.toNat, r.2.1.it)
    | none => (splitH (wants 0 kind) ws).map fun r => (0, r.2.1.it) := by
  unfold MS.pick
  have h1 := find_split z.toNat kind ws
  rw [show ((z.toNat : Nat) : Int) = z by omega] at h1
  rw [h.q z.toNat (by omega), h.q 0 (by omega), h1]
  have h0 := find_split 0 kind ws
  rw [show ((0 : Nat) : Int) = 0 from rfl] at h0
  rw [h0]
  cases splitH (wants z kind) ws with
  | some r => rfl
  | none => simp [Option.map_map, Function.comp_def]
theorem Sim.taken (h : Sim s ws ls t) (hO : One s) {k : Nat} (hk : k ≤ 64) {a b : List Hd} {x : Hd} (hx : ws = a ++ x :: b) (hxk : x.worker = k) : ∀ j, j ≤ 64 → (s.setq k (others (s.q k) x.run x.kind x.id)).q j = ofW (a ++ b) j := by
  intro j hj
  have hq : ∀ j, j ≤ 64 → s.q j = ofW a j ++ (if x.worker = (j : Int) then x.it :: ofW b j else ofW b j) := fun j hj => by rw [h.q j hj, hx, ofW_append, ofW_cons]
  rw [ofW_append]
  by_cases hjk : j = k
  · subst hjk
    have h1 := hq j hj
    rw [if_pos hxk] at h1
    have h2 := hO.apart hj
    rw [h1] at h2
    simp only [MS.setq, if_true]
    rw [h1]
    exact others_at (x := x.it) h2
  · have h1 := hq j hj
    rw [if_neg (by omega)] at h1
    simp only [MS.setq, hjk, if_false]
    exact h1
theorem Sim.poll (h : Sim s ws ls t) (hO : One s) (z kind now : Int) : pollE s z kind = rpollE ws ls z kind ∧ pollL s z kind now = rpollL (rpollO ws ls z kind) t z now ∧ Sim (pollS s z kind now) (rpollW (rpollO ws ls z kind) ws) (rpollLs (rpollO ws ls z kind) ls t z now) (rpollT (rpollO ws ls z kind) t) := by
  unfold pollE pollL pollS rpollE rpollO
  by_cases hz : z < 1 ∨ 64 < z
  · simp only [if_pos hz]; exact ⟨trivial, rfl, h⟩
  · simp only [if_neg hz]
    rw [h.ls]
    by_cases hl : 256 ≤ ls.length
    · simp only [if_pos hl]; exact ⟨trivial, rfl, h⟩
    · simp only [if_neg hl]
      have hp := h.pick (z := z) (by omega) (by omega) kind
      unfold rpick
      rw [hp, h.tok]
      cases h1 : splitH (wants z kind) ws with
      | some r =>
        obtain ⟨a, x, b⟩ := r
        obtain ⟨hx, hwx⟩ := splitH_spec h1
        have hxw : x.worker = z := by unfold wants at hwx; simp at hwx; exact hwx.1
        refine ⟨rfl, rfl, rfl, ?_, fun j hj => ?_, fun y hy => ?_⟩
        · rfl
        · exact h.taken hO (k := z.toNat) (by omega) hx (by omega) j hj
        · exact h.rng y (by rw [hx]; rcases List.mem_append.1 hy with hy | hy <;> simp [hy])
      | none =>
        cases h2 : splitH (wants 0 kind) ws with
        | some r =>
          obtain ⟨a, x, b⟩ := r
          obtain ⟨hx, hwx⟩ := splitH_spec h2
          have hxw : x.worker = 0 := by unfold wants at hwx; simp at hwx; exact hwx.1
          refine ⟨rfl, rfl, rfl, ?_, fun j hj => ?_, fun y hy => ?_⟩
          · rfl
          · exact h.taken hO (k := 0) (by omega) hx (by omega) j hj
          · exact h.rng y (by rw [hx]; rcases List.mem_append.1 hy with hy | hy <;> simp [hy])
        | none => exact ⟨rfl, rfl, h⟩
/-- the last lease that fits -/
def lastL (p : Ls → Bool) (ls : List Ls) : Ls := ls.foldl (fun w x => if p x = true then x else w) zeroL
theorem lastL_find {p : Ls → Bool} : ∀ {ls : List Ls} (w : Ls), (∀ a ∈ ls, ∀ b ∈ ls, p a = true → p b = true → a = b) → ls.foldl (fun w x => if p x = true then x else w) w = (ls.find? p).getD w
  | [], _, _ => rfl
  | x :: xs, w, h => by
    rw [List.foldl_cons, List.find?_cons]
    have ih := fun w => lastL_find (ls := xs) w (fun a ha b hb => h a (by simp [ha]) b (by simp [hb]))
    cases hx : p x with
    | true =>
      rw [if_pos rfl, ih]
      cases hf : xs.find? p with
      | none => rfl
      | some y =>
        have := h y (by simp [List.mem_of_find?_eq_some hf]) x (by simp) (List.find?_some hf) hx
        rw [this]; rfl
    | false => rw [if_neg (by decide), ih]
theorem tok_inj {ls : List Ls} (h : ls.Pairwise fun a b => a.tok < b.tok) : ∀ a ∈ ls, ∀ b ∈ ls, a.tok = b.tok → a = b := by
  induction ls with
  | nil => intro a ha; simp at ha
  | cons x xs ih =>
    rw [List.pairwise_cons] at h
    intro a ha b hb e
    rcases List.mem_cons.1 ha with ha1 | ha <;> rcases List.mem_cons.1 hb with hb1 | hb
    · rw [ha1, hb1]
    · have := h.1 b hb; subst ha1; omega
    · have := h.1 a ha; subst hb1; omega
    · exact ih h.2 a ha b hb e
theorem get_last {N now0 : Int} (hI : MInv s N now0) (tok now : Int) : getL s tok now = lastL (fun x => x.tok == tok && decide (now < x.until_)) s.ls ∧ (getE s tok now = 0 ↔ 0 < (getL s tok now).tok) ∧ (getE s tok now = 0 ∨ getE s tok now = 210) := by
  have h1 : getL s tok now = lastL (fun x => x.tok == tok && decide (now < x.until_)) s.ls := by
    unfold getL MS.get lastL
    rw [lastL_find]
    intro a ha b hb hpa hpb
    simp at hpa hpb
    exact tok_inj hI.ltp a ha b hb (by omega)
  refine ⟨h1, ?_, ?_⟩
  · unfold getE getL
    cases hg : s.get tok now with
    | none => simp [zeroL]
    | some l =>
      have hm : l ∈ s.ls := List.mem_of_find?_eq_some hg
      have := hI.lt l hm
      simp; omega
  · unfold getE
    split
    · exact Or.inl rfl
    · exact Or.inr rfl
theorem Sim.done (h : Sim s ws ls t) (tok : Int) : Sim (s.done tok) ws (keepL (fun l => l.tok == tok) ls) t := ⟨h.tok, by show keepL _ s.ls = _; rw [h.ls], h.q, h.rng⟩
theorem Sim.expire (h : Sim s ws ls t) (hO : One s) (now : Int) : s.late now = outL (leaves true 0 now) ls ∧ Sim (s.expire now) (rturn 0 now false ws 64) (keepL (leaves true 0 now) ls) t := by
  have h1 := h.exp now 64 (Nat.le_refl _)
  rw [← expS_eq hO now 64 (Nat.le_refl _)] at h1
  unfold MS.expire
  generalize expS s now 64 = e at *
  refine ⟨by unfold MS.late outL leaves; rw [h.ls]; simp, h1.tok, ?_, h1.q, h1.rng⟩
  show keepL _ s.ls = _
  unfold leaves
  rw [h.ls]; simp
theorem Sim.lose (h : Sim s ws ls t) (hO : One s) {z : Int} (hz1 : 1 ≤ z) (hz2 : z ≤ 64) (now : Int) : s.lost z = outL (leaves false z now) ls ∧ Sim (s.lose z now) (rturn z now true ws 64) (keepL (leaves false z now) ls) t := by
  have h1 := h.loseQ hO now (z := z.toNat) (by omega) (by omega)
  rw [show ((z.toNat : Nat) : Int) = z by omega] at h1
  unfold MS.lost MS.lose
  rw [if_neg (by omega), if_neg (by omega)]
  refine ⟨by unfold outL leaves; rw [h.ls]; simp, h1.tok, ?_, h1.q, h1.rng⟩
  show keepL _ s.ls = _
  unfold leaves
  rw [h.ls]; simp
end
end Go.Proofs.Ytfbolgdecdfnaaa
