/- What a match is in memory: 65 queues and a row of leases behind a number of tokens. -/
import Derived.Test.YtadmfoglajhdcaaMQ
import Derived.Test.YtadmfoglajhdcaaRow
namespace Go.Proofs.Ytadmfoglajhdcaa
set_option maxRecDepth 4000
set_option linter.unusedVariables false
set_option linter.unusedSimpArgs false
open Go Go.RowKit Go.Maps Go.ChangeMaps Go.MapKept
/-- a task that somebody has -/
structure Ls where
  tok : Int
  run : Int
  kind : Int
  id : Int
  worker : Int
  until_ : Int
  deriving DecidableEq
def lsC (l : Ls) : List Value := [.int .u64 l.tok, .int .i64 l.run, .int .i64 l.kind, .int .i64 l.id, .int .i64 l.worker, .int .i64 l.until_]
def flatL (ls : List Ls) : List Value := ls.flatMap lsC
theorem flatL_nil : flatL [] = [] := rfl
theorem flatL_append (a b : List Ls) : flatL (a ++ b) = flatL a ++ flatL b := by simp [flatL]
theorem flatL_cons (l : Ls) (r : List Ls) : flatL (l :: r) = lsC l ++ flatL r := rfl
theorem flatL_length (ls : List Ls) : (flatL ls).length = ls.length * 6 := by
  induction ls with
  | nil => rfl
  | cons l ls ih => rw [flatL_cons, List.length_append, ih]; simp [lsC]; omega
theorem flatL_one {ls : List Ls} : ∀ u ∈ flatL ls, u.oneCell' = true := by
  intro u hu
  simp only [flatL, List.mem_flatMap] at hu
  obtain ⟨l, _, hu⟩ := hu
  simp [lsC] at hu
  rcases hu with rfl | rfl | rfl | rfl | rfl | rfl <;> rfl
/-- the cells of a lease in a row of leases -/
theorem lease_cells {w : World} {base L : Nat} {p : Option Addr} {c : Nat} {pre post : List Ls} {l : Ls} (hL : L = (pre ++ l :: post).length) (h : w.ownsRow base 56 6 (.slice p L c) L (flatL (pre ++ l :: post))) :
    ∃ g, p = some ⟨g, 0, none⟩ ∧ base ≤ g ∧ g < w.heap.size ∧ ∀ j u, (lsC l)[j]? = some u → w.cell? ⟨g, pre.length * 6 + j, none⟩ = some u := by
  rcases h.2 with ⟨_, h0⟩ | ⟨g, cap, cur, hv, _⟩
  · simp at hL; omega
  · have hlt := h.lt g (by rw [hv]; rfl)
    have hc := h.cells (g := g) (by rw [hv]; rfl)
    injection hv with h1 h2 h3
    refine ⟨g, h1, hlt.1, hlt.2, fun j u hj => ?_⟩
    have fl := flatL_length pre
    rw [flatL_append, flatL_cons] at hc
    have := hc (pre.length * 6 + j) u (by
      rw [List.getElem?_append_right (by omega), fl, show pre.length * 6 + j - pre.length * 6 = j by omega, List.getElem?_append_left (by have := (List.getElem?_eq_some_iff.1 hj).1; exact this)]
      exact hj)
    rw [Go.WideShapes.add_plain] at this
    simpa using this
structure LCells (w : World) (g o : Nat) (l : Ls) : Prop where
  c0 : w.cell? ⟨g, o, none⟩ = some (.int .u64 l.tok)
  c1 : w.cell? ⟨g, o + 1, none⟩ = some (.int .i64 l.run)
  c2 : w.cell? ⟨g, o + 2, none⟩ = some (.int .i64 l.kind)
  c3 : w.cell? ⟨g, o + 3, none⟩ = some (.int .i64 l.id)
  c4 : w.cell? ⟨g, o + 4, none⟩ = some (.int .i64 l.worker)
  c5 : w.cell? ⟨g, o + 5, none⟩ = some (.int .i64 l.until_)
theorem lease_at {w : World} {base L : Nat} {p : Option Addr} {c : Nat} {pre post : List Ls} {l : Ls} (hL : L = (pre ++ l :: post).length) (h : w.ownsRow base 56 6 (.slice p L c) L (flatL (pre ++ l :: post))) :
    ∃ g, p = some ⟨g, 0, none⟩ ∧ base ≤ g ∧ g < w.heap.size ∧ LCells w g (pre.length * 6) l := by
  obtain ⟨g, h1, h2, h3, hc⟩ := lease_cells hL h
  exact ⟨g, h1, h2, h3, hc 0 _ rfl, hc 1 _ rfl, hc 2 _ rfl, hc 3 _ rfl, hc 4 _ rfl, hc 5 _ rfl⟩
/-- a match: how many tokens were given; who waits for whom (0: for anybody); who has what -/
structure MS where
  tok : Int
  q : Nat → List It
  ls : List Ls
def MS.setq (s : MS) (k : Nat) (xs : List It) : MS := { s with q := fun j => if j = k then xs else s.q j }
theorem MS.setq_same (s : MS) (k : Nat) : s.setq k (s.q k) = s := by
  unfold MS.setq; congr 1; funext j; split <;> simp_all
structure MRep (W : World) (m : Nat) (s : MS) (Fq : Nat → Nat → Prop) (lv : Value) : Prop where
  blk : ∃ cs T, Blk W m T cs ∧ T ≠ 87 ∧ T ≠ 56 ∧ cs[0]? = some (.int .u64 s.tok) ∧ cs[196]? = some lv
  q : ∀ k, k < 65 → QP W m (1 + k * 3) (s.q k) (Fq k)
  dis : ∀ k k', k < 65 → k' < 65 → k ≠ k' → ∀ b, Fq k b → ¬ Fq k' b
  own : W.ownsRow 0 56 6 lv s.ls.length (flatL s.ls)
  ol : ∀ b, lv.ownBlock = some b → b ≠ m ∧ ∀ k, k < 65 → ¬ Fq k b
  ln : s.ls.length ≤ 256
  qn : ∀ k, k < 65 → (s.q k).length ≤ 128
def MFoot (m : Nat) (Fq : Nat → Nat → Prop) (lv : Value) (b : Nat) : Prop := b = m ∨ (∃ k, k < 65 ∧ Fq k b) ∨ lv.ownBlock = some b
def mP (m : Nat) (s : MS) : Asr := fun W F => ∃ Fq lv, MRep W m s Fq lv ∧ F = MFoot m Fq lv
def MKept (m : Nat) (W W' : World) : Prop := ∀ cs T, Blk W m T cs → ∃ cs', Blk W' m T cs' ∧ cs'.size = cs.size ∧ ∀ j, 197 ≤ j → cs'[j]? = cs[j]?
theorem MKept.refl (m : Nat) (W : World) : MKept m W W := fun cs T h => ⟨cs, h, rfl, fun _ _ => rfl⟩
theorem MKept.trans {m : Nat} {a b c : World} (h : MKept m a b) (k : MKept m b c) : MKept m a c := fun cs T h0 => by
  obtain ⟨cs1, h1, h2, h3⟩ := h cs T h0
  obtain ⟨cs2, k1, k2, k3⟩ := k cs1 T h1
  exact ⟨cs2, k1, k2.trans h2, fun j hj => (k3 j hj).trans (h3 j hj)⟩
theorem MKept.ext {m : Nat} {a b : World} (h : Ext a b) : MKept m a b := fun cs T h0 => ⟨cs, h0.of_eq (h.block m h0.lt), rfl, fun _ _ => rfl⟩
/-- a call's step -/
def MStep (W W' : World) (m : Nat) (F : Nat → Prop) (s' : MS) : Prop := ∃ F', mP m s' W' F' ∧ Tch F W W' ∧ MKept m W W' ∧ ∀ k, F' k → F k ∨ W.heap.size ≤ k
section
variable {W W' : World} {m : Nat} {s s' : MS} {F : Nat → Prop} {Fq : Nat → Nat → Prop} {lv : Value}
theorem MRep.m_lt (h : MRep W m s Fq lv) : m < W.heap.size := (h.q 0 (by omega)).q_lt
theorem MRep.foot_lt (h : MRep W m s Fq lv) {b : Nat} (hb : MFoot m Fq lv b) : b < W.heap.size := by
  rcases hb with rfl | ⟨k, hk, hb⟩ | hb
  · exact h.m_lt
  · exact (h.q k hk).lt hb
  · exact (h.own.lt b hb).2
theorem MRep.keep (h : MRep W m s Fq lv) (hk : ∀ b, MFoot m Fq lv b → W'.heap[b]? = W.heap[b]?) : MRep W' m s Fq lv := by
  obtain ⟨⟨cs, T, h1, h2, h3, h4, h5⟩, hq, hd, ho, hl, hln, hqn⟩ := h
  exact ⟨⟨cs, T, h1.of_eq (hk m (Or.inl rfl)), h2, h3, h4, h5⟩, fun k hk' => (hq k hk').keep (hk m (Or.inl rfl)) fun b hb => hk b (Or.inr (Or.inl ⟨k, hk', hb⟩)), hd, ownsRow_same ho fun g hg => hk g (Or.inr (Or.inr hg)), hl, hln, hqn⟩
theorem MRep.ext (h : MRep W m s Fq lv) (hE : Ext W W') : MRep W' m s Fq lv := h.keep fun b hb => hE.block b (h.foot_lt hb)
theorem mP_loc (m : Nat) (s : MS) : Loc (mP m s) :=
  ⟨fun h hk => by
    obtain ⟨Fq, lv, h1, rfl⟩ := h
    exact ⟨Fq, lv, h1.keep hk, rfl⟩, fun h hk => by
    obtain ⟨Fq, lv, h1, rfl⟩ := h
    exact h1.foot_lt hk⟩
theorem MStep.of_ext (h : mP m s W F) (hE : Ext W W') : MStep W W' m F s := ⟨F, (mP_loc m s).ext h hE, Tch.of_ext hE, MKept.ext hE, fun _ h => Or.inl h⟩
theorem MStep.next (h : MStep W W' m F s') : Next F W W' (mP m s') := by
  obtain ⟨F', h1, h2, _, h4⟩ := h
  exact ⟨F', h1, h2, h4⟩
theorem MStep.trans {F1 : Nat → Prop} {W1 W2 : World} (ht : Tch F W W1) (hk : MKept m W W1) (hf : ∀ k, F1 k → F k ∨ W.heap.size ≤ k) (h : MStep W1 W2 m F1 s') : MStep W W2 m F s' := by
  obtain ⟨F2, h2, ht2, hk2, hf2⟩ := h
  refine ⟨F2, h2, ht.trans ht2 (fun i hi hl => (hf i hi).elim id (fun h => absurd hl (by omega))), hk.trans hk2, fun k hk => ?_⟩
  rcases hf2 k hk with h | h
  · exact hf k h
  · exact Or.inr (Nat.le_trans ht.size h)
theorem MStep.ext_left {W1 W2 : World} (hE : Ext W W1) (h : MStep W1 W2 m F s') : MStep W W2 m F s' := MStep.trans (Tch.of_ext hE) (MKept.ext hE) (fun _ h => Or.inl h) h
theorem MStep.ext_right {W1 W2 : World} (h : MStep W W1 m F s') (hE : Ext W1 W2) : MStep W W2 m F s' := by
  obtain ⟨F', h1, ht, hk, hf⟩ := h
  exact ⟨F', (mP_loc m s').ext h1 hE, ht.trans (Tch.of_ext (S := F) hE) (fun _ h _ => h), hk.trans (MKept.ext hE), hf⟩
/-- two steps -/
theorem MStep.then {s1 s2 : MS} {W1 W2 : World} (h1 : MStep W W1 m F s1) (h2 : ∀ F1, mP m s1 W1 F1 → MStep W1 W2 m F1 s2) : MStep W W2 m F s2 := by
  obtain ⟨F1, a1, a2, a3, a4⟩ := h1
  exact MStep.trans a2 a3 a4 (h2 F1 a1)
theorem MRep.tok (h : MRep W m s Fq lv) : W.cell? ⟨m, 0, none⟩ = some (.int .u64 s.tok) := by
  obtain ⟨cs, T, h1, _, _, h4, _⟩ := h.blk
  rw [h1.cell, h4]
theorem MRep.lcell (h : MRep W m s Fq lv) : W.cell? ⟨m, 196, none⟩ = some lv := by
  obtain ⟨cs, T, h1, _, _, _, h5⟩ := h.blk
  rw [h1.cell, h5]
theorem MRep.fz (h : MRep W m s Fq lv) (i : Nat) : W.frozen? ⟨m, i, none⟩ = false := by
  obtain ⟨cs, T, h1, _⟩ := h.blk
  exact h1.frozen i
/-- one of the queues turns -/
theorem MRep.qturn (h : MRep W m s Fq lv) {k : Nat} (hk : k < 65) {xs : List It} (hx : xs.length ≤ 128) (hs : QStep W W' m (1 + k * 3) (Fq k) xs) : MStep W W' m (MFoot m Fq lv) (s.setq k xs) := by
  obtain ⟨F', h1, ht, hr, hf⟩ := hs
  obtain ⟨⟨cs, T, b1, b2, b2', b3, b4⟩, hq, hd, ho, hl, hln, hqn⟩ := h
  obtain ⟨cs', c1, c2, c3⟩ := hr cs T b1
  have hfar : ∀ b, (∃ k', k' < 65 ∧ k' ≠ k ∧ Fq k' b) ∨ lv.ownBlock = some b → W'.heap[b]? = W.heap[b]? := by
    rintro b (⟨k', hk', hne, hb⟩ | hb)
    · refine ht.block b ((hq k' hk').lt hb) ?_
      rintro (rfl | hb')
      · exact (hq k' hk').ne hb rfl
      · exact hd k' k hk' hk hne b hb hb'
    · refine ht.block b (ho.lt b hb).2 ?_
      rintro (rfl | hb')
      · exact (hl _ hb).1 rfl
      · exact (hl b hb).2 k hk hb'
  have hF' : ∀ b, F' b → ∀ k', k' < 65 → k' ≠ k → ¬ Fq k' b := by
    intro b hb k' hk' hne hb'
    rcases hf b hb with h | h
    · exact hd k k' hk hk' (Ne.symm hne) b h hb'
    · have := (hq k' hk').lt hb'; omega
  refine ⟨MFoot m (fun j => if j = k then F' else Fq j) lv, ⟨_, lv, ⟨⟨cs', T, c1, b2, b2', (c3 0 (Or.inl (by omega))).trans b3, (c3 196 (Or.inr (by omega))).trans b4⟩, ?_, ?_, ?_, ?_, hln, ?_⟩, rfl⟩, ?_, ?_, ?_⟩
  · intro j hj
    by_cases hjk : j = k
    · subst hjk; simpa [MS.setq] using h1
    · simp only [MS.setq, hjk, if_false]
      exact (hq j hj).row b1 c1 (fun i h1 h2 => c3 i (by omega)) (fun b hb => hfar b (Or.inl ⟨j, hj, hjk, hb⟩))
  · intro i j hi hj hij b hb hb'
    by_cases hik : i = k
    · subst hik
      simp only [if_true] at hb
      rw [if_neg (Ne.symm hij)] at hb'
      exact hF' b hb j hj (Ne.symm hij) hb'
    · rw [if_neg hik] at hb
      by_cases hjk : j = k
      · subst hjk
        simp only [if_true] at hb'
        exact hF' b hb' i hi hik hb
      · rw [if_neg hjk] at hb'
        exact hd i j hi hj hij b hb hb'
  · exact ownsRow_same ho fun g hg => hfar g (Or.inr hg)
  · intro b hb
    refine ⟨(hl b hb).1, fun j hj => ?_⟩
    by_cases hjk : j = k
    · subst hjk
      simp only [if_true]
      intro hb'
      rcases hf b hb' with h | h
      · exact (hl b hb).2 j hj h
      · have := (ho.lt b hb).2; omega
    · rw [if_neg hjk]; exact (hl b hb).2 j hj
  · intro j hj
    by_cases hjk : j = k
    · subst hjk; simpa [MS.setq] using hx
    · simpa [MS.setq, hjk] using hqn j hj
  · refine ht.mono fun b hb _ => ?_
    rcases hb with rfl | hb
    · exact Or.inl rfl
    · exact Or.inr (Or.inl ⟨k, hk, hb⟩)
  · intro ds U hU
    have e : W.heap[m]? = _ := b1
    have e2 : W.heap[m]? = _ := hU
    rw [e] at e2
    injection e2 with e2
    injection e2 with e3 e4
    subst e3 e4
    exact ⟨cs', c1, c2, fun j hj => c3 j (Or.inr (by omega))⟩
  · rintro b (rfl | ⟨j, hj, hb⟩ | hb)
    · exact Or.inl (Or.inl rfl)
    · by_cases hjk : j = k
      · subst hjk
        simp only [if_true] at hb
        rcases hf b hb with h | h
        · exact Or.inl (Or.inr (Or.inl ⟨j, hj, h⟩))
        · exact Or.inr h
      · rw [if_neg hjk] at hb
        exact Or.inl (Or.inr (Or.inl ⟨j, hj, hb⟩))
    · exact Or.inl (Or.inr (Or.inr hb))
/-- a call on one of the queues -/
theorem mP_act {P : Program} {f : FuncId} {args : Array Value} {R : Ending → Prop} {k o : Nat} {xs : List It} (h : mP m s W F) (hk : k < 65) (ho : o = 1 + k * 3) (hx : xs.length ≤ 128) (hc : ∀ G, QP W m o (s.q k) G → Calls P f args W fun e W' => R e ∧ QStep W W' m o G xs) :
    Calls P f args W fun e W' => R e ∧ MStep W W' m F (s.setq k xs) := by
  subst ho
  obtain ⟨Fq, lv, h1, rfl⟩ := h
  exact (hc _ (h1.q k hk)).mono fun e W' ⟨hR, hs⟩ => ⟨hR, h1.qturn hk hx hs⟩
theorem mP_q {k o : Nat} (h : mP m s W F) (hk : k < 65) (ho : o = 1 + k * 3) : ∃ G, QP W m o (s.q k) G := by
  subst ho
  obtain ⟨Fq, lv, h1, rfl⟩ := h
  exact ⟨_, h1.q k hk⟩
theorem mP_ln (h : mP m s W F) : s.ls.length ≤ 256 := by
  obtain ⟨Fq, lv, h1, rfl⟩ := h
  exact h1.ln
theorem mP_qn (h : mP m s W F) {k : Nat} (hk : k < 65) : (s.q k).length ≤ 128 := by
  obtain ⟨Fq, lv, h1, rfl⟩ := h
  exact h1.qn k hk
theorem mP_ok (h : mP m s W F) {k : Nat} (hk : k < 65) : ∀ x ∈ s.q k, x.Ok := by
  obtain ⟨Fq, lv, h1, rfl⟩ := h
  exact (h1.q k hk).ok
theorem mP_apart (h : mP m s W F) {k : Nat} (hk : k < 65) : (s.q k).Pairwise fun a b => isK a b.run b.kind b.id = false := by
  obtain ⟨Fq, lv, h1, rfl⟩ := h
  exact (h1.q k hk).apart
theorem mP_m (h : mP m s W F) : m < W.heap.size := by
  obtain ⟨Fq, lv, h1, rfl⟩ := h
  exact h1.m_lt
/-- the leases' row is another one -/
theorem MRep.lturn (h : MRep W m s Fq lv) {lv' : Value} {ls' : List Ls} (hn : ls'.length ≤ 256) (h0 : ∃ cs T, Blk W m T cs ∧ Blk W' m T (cs.setIfInBounds 196 lv')) (hE : ∀ b, (∃ k, k < 65 ∧ Fq k b) → W'.heap[b]? = W.heap[b]?) (ht : Tch (MFoot m Fq lv) W W')
    (ho : W'.ownsRow 0 56 6 lv' ls'.length (flatL ls')) (hl : ∀ b, lv'.ownBlock = some b → b ≠ m ∧ (lv.ownBlock = some b ∨ W.heap.size ≤ b)) : mP m { s with ls := ls' } W' (MFoot m Fq lv') ∧ Tch (MFoot m Fq lv) W W' ∧ MKept m W W' ∧ ∀ k, MFoot m Fq lv' k → MFoot m Fq lv k ∨ W.heap.size ≤ k := by
  obtain ⟨cs, T, c1, c2⟩ := h0
  obtain ⟨⟨cs0, T0, b1, b2, b2', b3, b4⟩, hq, hd, hown, hol, hln, hqn⟩ := h
  have e : W.heap[m]? = _ := b1
  have e2 : W.heap[m]? = _ := c1
  rw [e] at e2
  injection e2 with e2
  injection e2 with e3 e4
  subst e3 e4
  have h196 : 196 < cs0.size := (Array.getElem?_eq_some_iff.1 b4).1
  have hne : ∀ j, j ≠ 196 → (cs0.setIfInBounds 196 lv')[j]? = cs0[j]? := fun j hj => by rw [Array.getElem?_setIfInBounds_ne (Ne.symm hj)]
  refine ⟨⟨Fq, lv', ⟨⟨_, T0, c2, b2, b2', (hne 0 (by omega)).trans b3, by rw [Array.getElem?_setIfInBounds_self_of_lt h196]⟩, fun k hk => ?_, hd, ho, ?_, hn, hqn⟩, rfl⟩, ht, ?_, ?_⟩
  · exact (hq k hk).row b1 c2 (fun i h1 h2 => hne i (by omega)) fun b hb => hE b ⟨k, hk, hb⟩
  · intro b hb
    refine ⟨(hl b hb).1, fun k hk hb' => ?_⟩
    rcases (hl b hb).2 with h | h
    · exact (hol b h).2 k hk hb'
    · have := (hq k hk).lt hb'; omega
  · intro ds U hU
    have e2 : W.heap[m]? = _ := hU
    rw [e] at e2
    injection e2 with e2
    injection e2 with e3 e4
    subst e3 e4
    exact ⟨_, c2, by simp, fun j hj => hne j (by omega)⟩
  · rintro b (rfl | hb | hb)
    · exact Or.inl (Or.inl rfl)
    · exact Or.inl (Or.inr (Or.inl hb))
    · rcases (hl b hb).2 with h | h
      · exact Or.inl (Or.inr (Or.inr h))
      · exact Or.inr h
/-- another row of leases is stored -/
theorem MRep.setl' (h : MRep W m s Fq lv) {W' : World} {lv' : Value} {ls' : List Ls} (hn : ls'.length ≤ 256) (ht : Tch (fun k => lv.ownBlock = some k) W W') (ho : W'.ownsRow 0 56 6 lv' ls'.length (flatL ls')) (hl : ∀ b, lv'.ownBlock = some b → lv.ownBlock = some b ∨ W.heap.size ≤ b) :
    mP m { s with ls := ls' } (W'.setCell ⟨m, 196, none⟩ lv') (MFoot m Fq lv') ∧ Tch (MFoot m Fq lv) W (W'.setCell ⟨m, 196, none⟩ lv') ∧ MKept m W (W'.setCell ⟨m, 196, none⟩ lv') ∧ ∀ k, MFoot m Fq lv' k → MFoot m Fq lv k ∨ W.heap.size ≤ k := by
  obtain ⟨cs, T, b1, _⟩ := h.blk
  have hm := h.m_lt
  have hml : ∀ b, lv.ownBlock = some b → b ≠ m := fun b hb => (h.ol b hb).1
  have hml' : ∀ b, lv'.ownBlock = some b → b ≠ m := fun b hb => by
    rcases hl b hb with h1 | h1
    · exact hml b h1
    · omega
  have b2 := ht.blk b1 (fun hk => hml m hk rfl)
  have hfar : ∀ b, b ≠ m → (W'.setCell ⟨m, 196, none⟩ lv').heap[b]? = W'.heap[b]? := fun b hb => Below.heap_setCell _ _ _ _ hb
  refine h.lturn hn ⟨cs, T, b1, b2.set_ 196 lv'⟩ (fun b hb => ?_) ?_ (ownsRow_same ho fun g hg => hfar g (hml' g hg)) fun b hb => ⟨hml' b hb, hl b hb⟩
  · obtain ⟨k, hk, hb⟩ := hb
    rw [hfar b ((h.q k hk).ne hb)]
    exact ht.block b ((h.q k hk).lt hb) (fun h1 => (h.ol b h1).2 k hk hb)
  · have h2 : Tch (MFoot m Fq lv) W W' := ht.mono fun b hb _ => Or.inr (Or.inr hb)
    exact h2.setCell (p := ⟨m, 196, none⟩) (fun _ => Or.inl rfl) _
theorem MRep.setl (h : MRep W m s Fq lv) {W' : World} {lv' : Value} {ls' : List Ls} (hn : ls'.length ≤ 256) (ht : Tch (fun k => lv.ownBlock = some k) W W') (ho : W'.ownsRow 0 56 6 lv' ls'.length (flatL ls')) (hl : ∀ b, lv'.ownBlock = some b → lv.ownBlock = some b ∨ W.heap.size ≤ b) :
    MStep W (W'.setCell ⟨m, 196, none⟩ lv') m (MFoot m Fq lv) { s with ls := ls' } := ⟨_, h.setl' hn ht ho hl⟩
end
end Go.Proofs.Ytadmfoglajhdcaa
