/- A queue's push: what its two halves leave. -/
import Derived.Test.YtadmfoglajhdcaaQRep
import Derived.Test.YtadmfoglajhdcaaQMap
namespace Go.Proofs.Ytadmfoglajhdcaa
set_option maxRecDepth 4000
set_option linter.unusedVariables false
set_option linter.unusedSimpArgs false
open Go Go.RowKit Go.Maps Go.ChangeMaps Go.MapKept
theorem gen_world {P : Program} {c : Code} {Q : Exit → Act → World → Prop} {a : Act} {w : World} (F : World → Prop) (hf : F w) (h : ∀ W, F W → c.wp P Q a W) : c.wp P Q a w := h w hf
theorem upon_of_run {α : Type} {P : Program} {o : Oper} {a : Act} {K : Act → World → Prop} {Q : Exit → Act → World → Prop} {m : Sem α} {X : World} {f : α → World → Result Go.Next}
    (h : ∃ v w1, m.run P X = .ok v w1 ∧ o.upon P a K Q (f v w1)) : o.upon P a K Q ((m.run P X).andThen f) := by
  obtain ⟨v, w1, h1, h2⟩ := h
  rw [h1]
  exact h2
theorem link_zero (w : World) : (zeroValue 32).run Try.prog w = .ok (.pointer none) w := by kernel_rfl

/-- of a queue's block only its own cells have turned -/
def RowKept (q o : Nat) (w w' : World) : Prop := ∀ cs T, Blk w q T cs → ∃ cs', Blk w' q T cs' ∧ cs'.size = cs.size ∧ ∀ j, (j < o ∨ o + 3 ≤ j) → cs'[j]? = cs[j]?
theorem RowKept.refl (q o : Nat) (w : World) : RowKept q o w w := fun cs T h => ⟨cs, h, rfl, fun _ _ => rfl⟩
theorem RowKept.trans {q o : Nat} {a b c : World} (h : RowKept q o a b) (k : RowKept q o b c) : RowKept q o a c := fun cs T h0 => by
  obtain ⟨cs1, h1, h2, h3⟩ := h cs T h0
  obtain ⟨cs2, k1, k2, k3⟩ := k cs1 T h1
  exact ⟨cs2, k1, k2.trans h2, fun j hj => (k3 j hj).trans (h3 j hj)⟩

/-- what the first half of a push leaves: the new link lies there, the last one leads to it -/
structure Half (w : World) (q o : Nat) (bm0 : Option Nat) (xs : List Ent) (e : Ent) (bx : Nat) (T : TypeId) (cs : Array Value) (bm : Option Nat) (cs1 : Array Value) (W : World) : Prop where
  box : Blk W bx 43 #[.int .i64 e.run, .int .i64 e.kind, .int .i64 e.id]
  node : Blk W e.blk 87 (nodeV e (tl none xs) none)
  row : Blk W q T cs1
  ne : T ≠ 87
  c0 : cs1[o]? = some (ptr (hd xs (some e.blk)))
  c1 : cs1[o + 1]? = some (ptr (tl none xs))
  c2 : cs1[o + 2]? = some (.map bm)
  rest : cs1.size = cs.size ∧ ∀ j, (j < o ∨ o + 3 ≤ j) → cs1[j]? = cs[j]?
  seg : Seg W 87 none xs (some e.blk)
  tch : Tch (Foot q bm0 xs) w W
  bxn : w.heap.size ≤ bx
  bkn : w.heap.size ≤ e.blk
  bmn : ∀ b, bm = some b → bm0 = some b ∨ w.heap.size ≤ b
  mp : match bm with
    | none => xs = []
    | some b => ∃ D, MapIs D xs ∧ W.ownsMap Try.prog 43 linkElem b xs.length D

theorem ne_map {w : World} {g b n : Nat} {t : TypeId} {cs : Array Value} {D : DataW Unit} (h : Blk w g t cs) (hm : w.ownsMap Try.prog 43 linkElem b n D) : g ≠ b := by
  rintro rfl
  obtain ⟨es, clock, hb, _⟩ := hm
  unfold Blk at h
  rw [h] at hb
  cases hb

/-- the makeMap -/
theorem Half.made {w : World} {q o : Nat} {e : Ent} {bx : Nat} {T : TypeId} {cs cs1 : Array Value} {W : World} (h : Half w q o none [] e bx T cs none cs1 W) (hq : q < w.heap.size) :
    Half w q o none [] e bx T cs (some W.heap.size) (cs1.setIfInBounds (o + 2) (.map (some W.heap.size))) ((W.setCell ⟨q, o + 2, none⟩ (.map (some W.heap.size))).alloc (.map #[] 0)) := by
  have hx : q ≠ bx := by have := h.bxn; omega
  have hn : q ≠ e.blk := by have := h.bkn; omega
  have hsz : o + 2 < cs1.size := (Array.getElem?_eq_some_iff.1 h.c2).1
  refine ⟨(h.box.far (Ne.symm hx) _).alloc _, (h.node.far (Ne.symm hn) _).alloc _, (h.row.set_ _ _).alloc _, h.ne, ?_, ?_, ?_, ⟨by simp [h.rest.1], ?_⟩, trivial, (h.tch.setCell (fun _ => Or.inl rfl) _).alloc _, h.bxn, h.bkn, ?_, ?_⟩
  · rw [Array.getElem?_setIfInBounds_ne (by omega)]; exact h.c0
  · rw [Array.getElem?_setIfInBounds_ne (by omega)]; exact h.c1
  · rw [Array.getElem?_setIfInBounds_self_of_lt hsz]
  · intro j hj
    rw [Array.getElem?_setIfInBounds_ne (by omega)]; exact h.rest.2 j hj
  · intro b hb
    injection hb with hb
    subst hb
    exact Or.inr h.tch.size
  · have e : (W.setCell ⟨q, o + 2, none⟩ (.map (some W.heap.size))).heap.size = W.heap.size := by simp [World.setCell]
    have := World.ownsMap_made (W.setCell ⟨q, o + 2, none⟩ (.map (some W.heap.size))) Try.prog 43 linkElem
    rw [e] at this
    exact ⟨_, MapIs.empty, this⟩

/-- the end of a push -/
theorem Half.fin {w : World} {q o : Nat} {bm0 : Option Nat} {xs : List Ent} {e : Ent} {bx : Nat} {T : TypeId} {cs cs1 : Array Value} {b : Nat} {W w3 : World} (h : Half w q o bm0 xs e bx T cs (some b) cs1 W)
    (hq : QRep w q o bm0 xs) (hno : xs.any (isT · e.run e.kind e.id) = false) (hok : e.Ok) {kl : Lit} (hk : keyOf Try.prog 43 (taskV e.run e.kind e.id) = some kl) {D : DataW Unit} (hD : MapIs D xs)
    (hrow : Blk w3 q T (cs1.setIfInBounds (o + 1) (ptr (some e.blk)))) (ht : Tch (fun k => k = q ∨ k = b) W w3) (hown : w3.ownsMap Try.prog 43 linkElem b (xs.length + 1) (D.put kl (.lit (.int .i64 e.blk)))) :
    QRep w3 q o (some b) (xs ++ [e]) ∧ Tch (Foot q bm0 xs) w w3 := by
  have hmb : W.ownsMap Try.prog 43 linkElem b xs.length (h.mp.choose) := h.mp.choose_spec.2
  have hb1 : ∀ g t cs, Blk W g t cs → t = 87 → w3.heap[g]? = W.heap[g]? := fun g t cs hg et => ht.block g hg.lt (by
    rintro (rfl | rfl)
    · subst et; exact Blk.ne_ h.row hg h.ne rfl
    · exact ne_map hg hmb rfl)
  have hs1 : o + 1 < cs1.size := (Array.getElem?_eq_some_iff.1 h.c1).1
  refine ⟨⟨⟨_, T, hrow, h.ne, ?_, ?_, ?_⟩, ?_, ?_, ?_, ?_, ?_⟩, ?_⟩
  · rw [Array.getElem?_setIfInBounds_ne (by omega), h.c0, hd_append]; rfl
  · rw [Array.getElem?_setIfInBounds_self_of_lt hs1, tl_append]; rfl
  · rw [Array.getElem?_setIfInBounds_ne (by omega)]; exact h.c2
  · refine Seg.snoc (h.seg.keep fun x hx => ?_) (h.node.of_eq (hb1 _ _ _ h.node rfl))
    obtain ⟨c, hc⟩ := h.seg.lt x hx
    exact hb1 _ _ _ hc rfl
  · simp only [blks, List.map_append, List.map_cons, List.map_nil]
    refine List.nodup_append.2 ⟨hq.nodup, by simp, ?_⟩
    intro a ha y hy
    have h1 := hq.foot_lt (Or.inr (Or.inr ha))
    have h2 := h.bkn
    simp at hy
    omega
  · refine List.pairwise_append.2 ⟨hq.apart, List.pairwise_singleton _ _, ?_⟩
    intro a ha y hy
    simp at hy
    subst hy
    exact Bool.eq_false_iff.2 (List.any_eq_false.1 hno a ha)
  · intro y hy
    rcases List.mem_append.1 hy with hy | hy
    · exact hq.ok y hy
    · simp at hy; subst hy; exact hok
  · exact ⟨_, _, hD.put e hk hno, by simpa using hown, by simp⟩
  · refine h.tch.trans ht ?_
    rintro k (rfl | rfl) hk
    · exact Or.inl rfl
    · rcases h.bmn k rfl with hb | hb
      · exact Or.inr (Or.inl hb)
      · omega
end Go.Proofs.Ytadmfoglajhdcaa
