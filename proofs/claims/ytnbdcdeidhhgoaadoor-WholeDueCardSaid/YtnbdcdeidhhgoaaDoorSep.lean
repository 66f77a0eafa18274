/- DERIVED LEMMAS, OF NO PROGRAM: blocks that are known whole, what a call may touch, and things of a law's own side by side. -/
import Derived.Test.YtnbdcdeidhhgoaaDoorArgs
import Derived.Laws.OwnMore
import Derived.Laws.Rows
namespace Go.Proofs.YtnbdcdeidhhgoaaDoor
set_option maxRecDepth 4000
set_option linter.unusedVariables false
set_option linter.unusedSimpArgs false
open Go Go.RowKit
/-- block g is just the cells cs of element type t, none frozen -/
def Blk (w : World) (g : Nat) (t : TypeId) (cs : Array Value) : Prop := w.heap[g]? = some (.cells cs t (0, 0))
section
variable {w w' : World} {g : Nat} {t : TypeId} {cs : Array Value}
theorem Blk.lt (h : Blk w g t cs) : g < w.heap.size := by
  rcases Nat.lt_or_ge g w.heap.size with hlt | hge
  · exact hlt
  · unfold Blk at h; rw [Array.getElem?_eq_none hge] at h; cases h
theorem Blk.cell (h : Blk w g t cs) (i : Nat) : w.cell? ⟨g, i, none⟩ = cs[i]? := cell_of_row w g i cs t (0, 0) h
theorem Blk.frozen (h : Blk w g t cs) (i : Nat) : w.frozen? ⟨g, i, none⟩ = false := by
  unfold Blk at h
  simp [World.frozen?, h]
theorem Blk.new (w : World) (t : TypeId) (cs : Array Value) : Blk (w.alloc (.cells cs t)) w.heap.size t cs := heap_alloc_new w _
theorem Blk.drew (h : Blk w g t cs) : Blk w.drew g t cs := h
theorem Blk.drewN (h : Blk w g t cs) (n : Nat) : Blk (w.drewN n) g t cs := h
theorem Blk.alloc (h : Blk w g t cs) (o : Obj) : Blk (w.alloc o) g t cs := (Below.heap_alloc w o g h.lt).trans h
theorem Blk.set_ (h : Blk w g t cs) (i : Nat) (u : Value) : Blk (w.setCell ⟨g, i, none⟩ u) g t (cs.setIfInBounds i u) := by
  unfold Blk at h ⊢
  simp [World.setCell, Array.getElem?_modify, h]
theorem Blk.far (h : Blk w g t cs) {p : Addr} (hp : g ≠ p.block) (u : Value) : Blk (w.setCell p u) g t cs := (Below.heap_setCell w p u g hp).trans h
theorem Blk.of_eq (h : Blk w g t cs) (e : w'.heap[g]? = w.heap[g]?) : Blk w' g t cs := e.trans h
theorem Blk.ne_ {g' : Nat} {t' : TypeId} {cs' : Array Value} (h : Blk w g t cs) (h' : Blk w g' t' cs') (hne : t ≠ t') : g ≠ g' := by
  rintro rfl
  unfold Blk at h h'
  rw [h] at h'
  injection h' with h'
  injection h' with _ ht
  exact hne ht
end

/-- of the blocks that were there only those of S may have turned -/
structure Tch (S : Nat → Prop) (w w' : World) : Prop where
  os : w'.os = w.os
  tape : w'.tape = w.tape
  output : w'.output = w.output
  size : w.heap.size ≤ w'.heap.size
  block : ∀ k, k < w.heap.size → ¬ S k → w'.heap[k]? = w.heap[k]?
namespace Tch
variable {S S' : Nat → Prop} {a b c : World}
theorem refl (S : Nat → Prop) (w : World) : Tch S w w := ⟨rfl, rfl, rfl, Nat.le_refl _, fun _ _ _ => rfl⟩
theorem trans (h : Tch S a b) (k : Tch S' b c) (hs : ∀ i, S' i → i < a.heap.size → S i) : Tch S a c :=
  ⟨k.os.trans h.os, k.tape.trans h.tape, k.output.trans h.output, Nat.le_trans h.size k.size, fun i hi hn => (k.block i (Nat.lt_of_lt_of_le hi h.size) (fun h' => hn (hs i h' hi))).trans (h.block i hi hn)⟩
theorem mono (h : Tch S a b) (hs : ∀ i, S i → i < a.heap.size → S' i) : Tch S' a b := ⟨h.os, h.tape, h.output, h.size, fun i hi hn => h.block i hi (fun h' => hn (hs i h' hi))⟩
theorem drew (h : Tch S a b) : Tch S a b.drew := ⟨h.os, h.tape, h.output, h.size, h.block⟩
theorem drewN (h : Tch S a b) (n : Nat) : Tch S a (b.drewN n) := ⟨h.os, h.tape, h.output, h.size, h.block⟩
theorem alloc (h : Tch S a b) (o : Obj) : Tch S a (b.alloc o) :=
  ⟨h.os, h.tape, h.output, Nat.le_trans h.size (by simp), fun i hi hn => (Below.heap_alloc b o i (Nat.lt_of_lt_of_le hi h.size)).trans (h.block i hi hn)⟩
theorem setCell (h : Tch S a b) {p : Addr} (hp : p.block < a.heap.size → S p.block) (u : Value) : Tch S a (b.setCell p u) :=
  ⟨h.os, h.tape, h.output, by simpa [World.setCell] using h.size, fun i hi hn => (Below.heap_setCell b p u i (fun e => hn (by subst e; exact hp hi))).trans (h.block i hi hn)⟩
theorem grown (h : Tch S a b) {row : Option Nat} (hg : b.grownBy c row) (hr : ∀ g, row = some g → g < a.heap.size → S g) : Tch S a c :=
  ⟨hg.os.trans h.os, hg.tape.trans h.tape, hg.output.trans h.output, Nat.le_trans h.size hg.size, fun i hi hn =>
    (hg.block i (Nat.lt_of_lt_of_le hi h.size) (fun e => hn (hr i e.symm hi))).trans (h.block i hi hn)⟩
theorem of_ext (h : Ext a b) : Tch S a b := ⟨h.os, h.tape, h.output, h.size, fun i hi _ => h.block i hi⟩
theorem ext (h : Tch S a b) (hs : ∀ i, S i → a.heap.size ≤ i) : Ext a b := ⟨h.os, h.tape, h.output, h.size, fun i hi => h.block i hi (fun h' => by have := hs i h'; omega)⟩
theorem cell (h : Tch S a b) {g i : Nat} {v : Value} (hc : a.cell? ⟨g, i, none⟩ = some v) (hlt : g < a.heap.size) (hn : ¬ S g) : b.cell? ⟨g, i, none⟩ = some v := (World.cell?_of_block (w := a) (a := ⟨g, i, none⟩) (h.block g hlt hn)).trans hc
theorem blk (h : Tch S a b) {g : Nat} {t : TypeId} {cs : Array Value} (hb : Blk a g t cs) (hn : ¬ S g) : Blk b g t cs := (h.block g hb.lt hn).trans hb
end Tch
theorem gen_world' {P : Program} {c : Code} {Q : Exit → Act → World → Prop} {a : Act} {w : World} (F : World → Prop) (hf : F w) (h : ∀ W, F W → c.wp P Q a W) : c.wp P Q a w := h w hf
/-- what holds of a world, and the blocks that it speaks of -/
abbrev Asr := World → (Nat → Prop) → Prop
structure Loc (p : Asr) : Prop where
  keep : ∀ {W W' : World} {F : Nat → Prop}, p W F → (∀ k, F k → W'.heap[k]? = W.heap[k]?) → p W' F
  lt : ∀ {W : World} {F : Nat → Prop} {k : Nat}, p W F → F k → k < W.heap.size
/-- a step that turns what p spoke of into what p' says -/
def Next (F : Nat → Prop) (W W' : World) (p' : Asr) : Prop := ∃ F', p' W' F' ∧ Tch F W W' ∧ ∀ k, F' k → F k ∨ W.heap.size ≤ k
theorem Next.mk {F F' : Nat → Prop} {W W' : World} {p' : Asr} (h : p' W' F') (ht : Tch F W W') (hf : ∀ k, F' k → F k ∨ W.heap.size ≤ k) : Next F W W' p' := ⟨F', h, ht, hf⟩
theorem Next.tch {F : Nat → Prop} {W W' : World} {p' : Asr} (h : Next F W W' p') : Tch F W W' := by obtain ⟨_, _, ht, _⟩ := h; exact ht
theorem Next.trans {F F1 : Nat → Prop} {W W1 W2 : World} {p2 : Asr} (ht : Tch F W W1) (hf : ∀ k, F1 k → F k ∨ W.heap.size ≤ k) (h : Next F1 W1 W2 p2) : Next F W W2 p2 := by
  obtain ⟨F2, h2, ht2, hf2⟩ := h
  refine ⟨F2, h2, ht.trans ht2 (fun i hi hl => (hf i hi).elim id (fun h => absurd hl (by omega))), fun k hk => ?_⟩
  rcases hf2 k hk with h | h
  · exact hf k h
  · exact Or.inr (Nat.le_trans ht.size h)
theorem Next.ext_left {F : Nat → Prop} {W W1 W2 : World} {p2 : Asr} (hE : Ext W W1) (h : Next F W1 W2 p2) : Next F W W2 p2 :=
  Next.trans (Tch.of_ext hE) (fun _ h => Or.inl h) h
theorem Next.of_ext {F : Nat → Prop} {W W' : World} {p : Asr} (hp : Loc p) (h : p W F) (hE : Ext W W') : Next F W W' p :=
  ⟨F, hp.keep h (fun k hk => hE.block k (hp.lt h hk)), Tch.of_ext hE, fun _ h => Or.inl h⟩
theorem Loc.ext {p : Asr} (hp : Loc p) {W W' : World} {F : Nat → Prop} (h : p W F) (hE : Ext W W') : p W' F := hp.keep h (fun k hk => hE.block k (hp.lt h hk))
theorem Next.ext_right {F : Nat → Prop} {W W1 W2 : World} {p : Asr} (hp : Loc p) (h : Next F W W1 p) (hE : Ext W1 W2) : Next F W W2 p := by
  obtain ⟨F', h1, ht, hf⟩ := h
  exact ⟨F', hp.ext h1 hE, ht.trans (Tch.of_ext (S := F) hE) (fun _ h _ => h), hf⟩
theorem Next.imp {F : Nat → Prop} {W W' : World} {p p' : Asr} (h : Next F W W' p) (hp : ∀ F, p W' F → p' W' F) : Next F W W' p' := by
  obtain ⟨F', h1, ht, hf⟩ := h
  exact ⟨F', hp _ h1, ht, hf⟩

/-- things of the law's own (made since w), side by side -/
def Side (w W : World) : List Asr → (Nat → Prop) → Prop
  | [], _ => Ext w W
  | p :: ps, X => ∃ F, p W F ∧ (∀ k, F k → w.heap.size ≤ k ∧ ¬ X k) ∧ Side w W ps (fun k => X k ∨ F k)
def Has (w W : World) (ps : List Asr) : Prop := Side w W ps (fun _ => False)
section
variable {w W W' : World} {p q p' : Asr} {ps : List Asr} {X Y : Nat → Prop}
theorem Side.base : ∀ {ps : List Asr} {X : Nat → Prop}, Side w W ps X → Ext w W
  | [], _, h => h
  | _ :: _, _, ⟨_, _, _, h⟩ => Side.base h
theorem Has.base (h : Has w W ps) : Ext w W := Side.base h
theorem Side.weaken : ∀ {ps : List Asr} {X Y : Nat → Prop}, Side w W ps X → (∀ k, Y k → X k) → Side w W ps Y
  | [], _, _, h, _ => h
  | _ :: _, _, _, ⟨F, h1, h2, h3⟩, hy => ⟨F, h1, fun k hk => ⟨(h2 k hk).1, fun h => (h2 k hk).2 (hy k h)⟩, Side.weaken h3 fun k hk => hk.imp (hy k) id⟩
theorem Side.swap (h : Side w W (p :: q :: ps) X) : Side w W (q :: p :: ps) X := by
  obtain ⟨F, h1, h2, G, h3, h4, h5⟩ := h
  refine ⟨G, h3, fun k hk => ⟨(h4 k hk).1, fun hx => (h4 k hk).2 (Or.inl hx)⟩, F, h1, fun k hk => ⟨(h2 k hk).1, ?_⟩, h5.weaken ?_⟩
  · rintro (hx | hg)
    · exact (h2 k hk).2 hx
    · exact (h4 k hg).2 (Or.inr hk)
  · rintro k ((h | h) | h)
    · exact Or.inl (Or.inl h)
    · exact Or.inr h
    · exact Or.inl (Or.inr h)
theorem Side.perm {ps qs : List Asr} (h : ps.Perm qs) : ∀ {X : Nat → Prop}, Side w W ps X → Side w W qs X := by
  induction h with
  | nil => exact fun h => h
  | cons _ _ ih => rintro X ⟨F, h1, h2, h3⟩; exact ⟨F, h1, h2, ih h3⟩
  | swap _ _ _ => exact fun h => h.swap
  | trans _ _ i1 i2 => exact fun h => i2 (i1 h)
theorem Has.perm {ps qs : List Asr} (h : ps.Perm qs) (hh : Has w W ps) : Has w W qs := Side.perm h hh
theorem Has.swap (h : Has w W (p :: q :: ps)) : Has w W (q :: p :: ps) := Side.swap h
theorem Has.third {r : Asr} (h : Has w W (p :: q :: r :: ps)) : Has w W (r :: p :: q :: ps) := by
  have h1 : Has w W (p :: r :: q :: ps) := h.perm (List.Perm.cons _ (List.Perm.swap _ _ _))
  exact h1.swap
theorem Has.drop (h : Has w W (p :: ps)) : Has w W ps := by
  obtain ⟨F, _, _, h3⟩ := h
  exact h3.weaken fun _ h => h.elim
theorem Has.head (h : Has w W (p :: ps)) : ∃ F, p W F := by obtain ⟨F, h, _⟩ := h; exact ⟨F, h⟩
inductive Locs : List Asr → Prop
  | nil : Locs []
  | cons {p : Asr} {ps : List Asr} : Loc p → Locs ps → Locs (p :: ps)
theorem Side.step : ∀ {ps : List Asr} (_ : Locs ps) {X Y : Nat → Prop}, Side w W ps X → Tch X W W' → Ext w W' → (∀ k, Y k → X k ∨ W.heap.size ≤ k) → Side w W' ps Y
  | [], _, _, _, _, _, hE, _ => hE
  | _ :: _, .cons hp hps, X, Y, ⟨F, h1, h2, h3⟩, ht, hE, hy => by
    refine ⟨F, hp.keep h1 (fun k hk => ht.block k (hp.lt h1 hk) (h2 k hk).2), fun k hk => ⟨(h2 k hk).1, fun hyk => ?_⟩, Side.step hps h3 (ht.mono fun _ h _ => Or.inl h) hE ?_⟩
    · rcases hy k hyk with h | h
      · exact (h2 k hk).2 h
      · have := hp.lt h1 hk; omega
    · rintro k (h | h)
      · exact (hy k h).elim (fun h => Or.inl (Or.inl h)) Or.inr
      · exact Or.inl (Or.inr h)
/-- the first thing's step leaves the others alone -/
theorem Has.act {P : Program} {f : FuncId} {args : Array Value} {R : Ending → Prop} {W2 : World} (h : Has w W (p :: ps)) (hl : Locs ps) (hc : ∀ F, p W F → Calls P f args W2 fun e W' => R e ∧ Next F W W' p') :
    Calls P f args W2 fun e W' => R e ∧ Has w W' (p' :: ps) := by
  obtain ⟨F, h1, h2, h3⟩ := h
  refine (hc F h1).mono ?_
  rintro e W' ⟨hR, F', h4, ht, hf⟩
  have hE0 : Ext w W := Side.base h3
  have hE : Ext w W' := ((Tch.of_ext (S := fun k => w.heap.size ≤ k) hE0).trans ht (fun i hi _ => (h2 i hi).1)).ext (fun _ h => h)
  refine ⟨hR, F', h4, fun k hk => ⟨?_, id⟩, Side.step hl h3 (ht.mono fun _ h _ => Or.inr h) hE ?_⟩
  · rcases hf k hk with h | h
    · exact (h2 k h).1
    · exact Nat.le_trans hE0.le h
  · rintro k (h | h)
    · exact Or.inl (Or.inl h)
    · exact (hf k h).imp Or.inr id
/-- the same, outside a call -/
theorem Has.next (h : Has w W (p :: ps)) (hl : Locs ps) (hn : ∀ F, p W F → Next F W W' p') : Has w W' (p' :: ps) := by
  obtain ⟨F, h1, h2, h3⟩ := h
  obtain ⟨F', h4, ht, hf⟩ := hn F h1
  have hE0 : Ext w W := Side.base h3
  have hE : Ext w W' := ((Tch.of_ext (S := fun k => w.heap.size ≤ k) hE0).trans ht (fun i hi _ => (h2 i hi).1)).ext (fun _ h => h)
  refine ⟨F', h4, fun k hk => ⟨?_, id⟩, Side.step hl h3 (ht.mono fun _ h _ => Or.inr h) hE ?_⟩
  · rcases hf k hk with h | h
    · exact (h2 k h).1
    · exact Nat.le_trans hE0.le h
  · rintro k (h | h)
    · exact Or.inl (Or.inl h)
    · exact (hf k h).imp Or.inr id
theorem Has.ext (h : Has w W ps) (hl : Locs ps) (hE : Ext W W') : Has w W' ps :=
  Side.step hl h (Tch.of_ext hE) (h.base.trans hE) (fun k hk => hk.elim)
/-- something new -/
theorem Has.add {F : Nat → Prop} (h : Has w W ps) (hl : Locs ps) (hE : Ext W W') (hp : p W' F) (hf : ∀ k, F k → W.heap.size ≤ k) : Has w W' (p :: ps) :=
  ⟨F, hp, fun k hk => ⟨Nat.le_trans h.base.le (hf k hk), id⟩, Side.step hl h (Tch.of_ext hE) (h.base.trans hE) (fun k hk => hk.elim (fun h => h.elim) (fun h => Or.inr (hf k h)))⟩
theorem Has.nil (h : Ext w W) : Has w W [] := h
theorem Has.imp (h : Has w W (p :: ps)) (hp : ∀ F, p W F → p' W F) : Has w W (p' :: ps) := by
  obtain ⟨F, h1, h2, h3⟩ := h
  exact ⟨F, hp F h1, h2, h3⟩
end
/-- a call that leaves all as it was -/
theorem Has.keeps {w W : World} {p : Asr} {ps : List Asr} {P : Program} {f : FuncId} {args : Array Value} {R : Ending → World → Prop} (h : Has w W (p :: ps)) (hl : Locs (p :: ps)) (hc : ∀ F, p W F → Calls P f args W fun e W' => R e W' ∧ Ext W W') :
    Calls P f args W fun e W' => R e W' ∧ Has w W' (p :: ps) ∧ Ext W W' := by
  obtain ⟨F, hF⟩ := h.head
  exact (hc F hF).mono fun e W' ⟨h1, h2⟩ => ⟨h1, h.ext hl h2, h2⟩
theorem Has.keeps' {w W : World} {p : Asr} {ps : List Asr} {P : Program} {f : FuncId} {args : Array Value} {R : Ending → Prop} (h : Has w W (p :: ps)) (hc : ∀ F, p W F → Calls P f args W fun e W' => R e ∧ W = W') :
    Calls P f args W fun e W' => R e ∧ W = W' := by
  obtain ⟨F, hF⟩ := h.head
  exact hc F hF
/-- a block that is known whole -/
def blkA (g : Nat) (t : TypeId) (cs : Array Value) : Asr := fun W F => Blk W g t cs ∧ F = fun k => k = g
theorem blkA_loc (g : Nat) (t : TypeId) (cs : Array Value) : Loc (blkA g t cs) :=
  ⟨fun h hk => ⟨h.1.of_eq (hk g (by rw [h.2])), h.2⟩, fun h hk => by rw [h.2] at hk; subst hk; exact h.1.lt⟩
/-- a row of one's own -/
def rowA (e : TypeId) (size : Nat) (v : Value) (n : Nat) (xs : List Value) : Asr := fun W F => W.ownsRow 0 e size v n xs ∧ F = fun k => v.ownBlock = some k
theorem rowA_loc (e : TypeId) (size : Nat) (v : Value) (n : Nat) (xs : List Value) : Loc (rowA e size v n xs) :=
  ⟨fun h hk => ⟨ownsRow_same h.1 fun g hg => hk g (by rw [h.2]; exact hg), h.2⟩, fun h hk => by rw [h.2] at hk; exact (h.1.lt _ hk).2⟩
theorem ownsRow_base {w : World} {b b' : Nat} {e : TypeId} {size : Nat} {v : Value} {n : Nat} {xs : List Value} (h : w.ownsRow b e size v n xs) (hb : ∀ k, v.ownBlock = some k → b' ≤ k) : w.ownsRow b' e size v n xs := by
  refine ⟨h.1, ?_⟩
  rcases h.2 with hn | ⟨g, cap, cur, rfl, hg, hgg, rest⟩
  · exact .inl hn
  · exact .inr ⟨g, cap, cur, rfl, hb g rfl, hgg, rest⟩
theorem setRow_blk {w : World} {g : Nat} {t : TypeId} {old cs : Array Value} (h : Blk w g t old) : Blk (w.setRow g cs) g t cs := setRow_heap w g old cs t _ h
theorem setRow_far {w : World} {g g' : Nat} {t : TypeId} {old cs : Array Value} (h : Blk w g t old) (hne : g ≠ g') : Blk (w.setRow g' cs) g t old := (setRow_other w g' g cs hne).trans h
theorem setRow_ext {W w : World} {g : Nat} {cs : Array Value} (S : Nat → Prop) (h : Tch S W w) (hg : W.heap.size ≤ g) : Tch S W (w.setRow g cs) :=
  ⟨h.os, h.tape, h.output, by simpa using h.size, fun k hk hn => (setRow_other w g k cs (by omega)).trans (h.block k hk hn)⟩
theorem row_ne {W : World} {q : Nat} {t e : TypeId} {cs : Array Value} (h : Blk W q t cs) (hte : t ≠ e) {base size n : Nat} {v : Value} {xs : List Value} (hr : W.ownsRow base e size v n xs) : v.ownBlock ≠ some q := by
  intro hk
  rcases hr.2 with ⟨rfl, _⟩ | ⟨g, cap, cur, rfl, _, hg, _⟩
  · simp [Value.ownBlock] at hk
  · have : g = q := by simpa [Value.ownBlock] using hk
    subst this
    unfold Blk at h
    rw [hg] at h
    injection h with h
    injection h with _ h
    exact hte h.symm
theorem Has.actB {w W : World} {p p' : Asr} {ps : List Asr} {P : Program} {f : FuncId} {args : Array Value} {R : Ending → Prop} {W2 : World} (h : Has w W (p :: ps)) (hl : Locs ps) (hc : ∀ F, p W F → (∀ k, F k → w.heap.size ≤ k) → Calls P f args W2 fun e W' => R e ∧ Next F W W' p') :
    Calls P f args W2 fun e W' => R e ∧ Has w W' (p' :: ps) := by
  obtain ⟨F, h1, h2, h3⟩ := h
  refine (hc F h1 (fun k hk => (h2 k hk).1)).mono ?_
  rintro e W' ⟨hR, F', h4, ht, hf⟩
  have hE0 : Ext w W := Side.base h3
  have hE : Ext w W' := ((Tch.of_ext (S := fun k => w.heap.size ≤ k) hE0).trans ht (fun i hi _ => (h2 i hi).1)).ext (fun _ h => h)
  refine ⟨hR, F', h4, fun k hk => ⟨?_, id⟩, Side.step hl h3 (ht.mono fun _ h _ => Or.inr h) hE ?_⟩
  · rcases hf k hk with h | h
    · exact (h2 k h).1
    · exact Nat.le_trans hE0.le h
  · rintro k (h | h)
    · exact Or.inl (Or.inl h)
    · exact (hf k h).imp Or.inr id
theorem gen_calls {P : Program} {f : FuncId} {args : Array Value} {R : Ending → World → Prop} {w : World} (F : World → Prop) (hf : F w) (h : ∀ W, F W → Calls P f args W R) : Calls P f args w R := h w hf
/-- two new things at once -/
theorem Has.add2 {w W W' : World} {p q : Asr} {ps : List Asr} {F G : Nat → Prop} (h : Has w W ps) (hl : Locs ps) (hE : Ext W W') (hp : p W' F) (hq : q W' G) (hf : ∀ k, F k → W.heap.size ≤ k) (hg : ∀ k, G k → W.heap.size ≤ k) (hd : ∀ k, G k → ¬ F k) : Has w W' (p :: q :: ps) := by
  have hb := h.base
  have hs : Side w W' ps (fun k => F k ∨ G k) := Side.step hl h (Tch.of_ext hE) (hb.trans hE) fun k hk => Or.inr (by rcases hk with hk | hk; exact hf k hk; exact hg k hk)
  refine ⟨F, hp, fun k hk => ⟨Nat.le_trans hb.le (hf k hk), fun e => e⟩, G, hq, fun k hk => ⟨Nat.le_trans hb.le (hg k hk), fun e => ?_⟩, Side.weaken hs fun k hk => ?_⟩
  · rcases e with e | e
    · exact e
    · exact hd k hk e
  · rcases hk with (hk | hk) | hk
    · exact hk.elim
    · exact Or.inl hk
    · exact Or.inr hk
end Go.Proofs.YtnbdcdeidhhgoaaDoor
