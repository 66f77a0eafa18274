/- The walk of a queue's cut: a task is there no more. -/
import Derived.Test.YtadmfoglajhdcaaQRead
namespace Go.Proofs.Ytadmfoglajhdcaa
set_option maxRecDepth 4000
set_option linter.unusedVariables false
set_option linter.unusedSimpArgs false
open Go Go.RowKit Go.Maps Go.ChangeMaps Go.MapKept
abbrev linkT : TypeId := 87
/-- behind the delete -/
structure CutA (w : World) (q o b : Nat) (l r : List Ent) (e : Ent) (T : TypeId) (cs : Array Value) (W : World) : Prop where
  row : Blk W q T cs
  ne : T ≠ linkT
  c0 : cs[o]? = some (ptr (hd (l ++ e :: r) none))
  c1 : cs[o + 1]? = some (ptr (tl none (l ++ e :: r)))
  c2 : cs[o + 2]? = some (.map (some b))
  seg : Seg W linkT none (l ++ e :: r) none
  nodup : (blks (l ++ e :: r)).Nodup
  own : ∃ D, MapIs D (l ++ r) ∧ W.ownsMap Try.prog 43 linkElem b (l ++ r).length D
  tch : Tch (Foot q (some b) (l ++ e :: r)) w W
/-- and the one ahead of it leads past it -/
structure CutB (w : World) (q o b : Nat) (l r : List Ent) (e : Ent) (T : TypeId) (cs cs1 : Array Value) (W : World) : Prop where
  row : Blk W q T cs1
  ne : T ≠ linkT
  c0 : cs1[o]? = some (ptr (hd (l ++ r) none))
  c1 : cs1[o + 1]? = some (ptr (tl none (l ++ e :: r)))
  c2 : cs1[o + 2]? = some (.map (some b))
  rest : cs1.size = cs.size ∧ ∀ j, (j < o ∨ o + 3 ≤ j) → cs1[j]? = cs[j]?
  segl : Seg W linkT none l (hd r none)
  node : Blk W e.blk linkT (nodeV e (tl none l) (hd r none))
  segr : Seg W linkT (some e.blk) r none
  nodup : (blks (l ++ e :: r)).Nodup
  own : ∃ D, MapIs D (l ++ r) ∧ W.ownsMap Try.prog 43 linkElem b (l ++ r).length D
  tch : Tch (Foot q (some b) (l ++ e :: r)) w W

theorem nd_split {l r : List Ent} {e : Ent} (h : (blks (l ++ e :: r)).Nodup) : (∀ x ∈ blks l, x ≠ e.blk) ∧ (∀ x ∈ blks r, x ≠ e.blk) ∧ (∀ x ∈ blks l, ∀ y ∈ blks r, x ≠ y) ∧ (blks l).Nodup ∧ (blks r).Nodup := by
  simp only [blks, List.map_append, List.map_cons] at h ⊢
  obtain ⟨h1, h2, h3⟩ := List.nodup_append.1 h
  obtain ⟨h4, h5⟩ := List.nodup_cons.1 h2
  exact ⟨fun x hx => h3 x hx _ (by simp), fun x hx e => h4 (e ▸ hx), fun x hx y hy => h3 x hx y (by simp [hy]), h1, h5⟩

theorem CutA.first {w : World} {q o b : Nat} {r : List Ent} {e : Ent} {T : TypeId} {cs : Array Value} {W : World} (h : CutA w q o b [] r e T cs W) :
    CutB w q o b [] r e T cs (cs.setIfInBounds o (ptr (hd r none))) (W.setCell ⟨q, o, none⟩ (ptr (hd r none))) := by
  obtain ⟨row, ne, c0, c1, c2, seg, nodup, ⟨D, hD, own⟩, tch⟩ := h
  have hso : o < cs.size := (Array.getElem?_eq_some_iff.1 c0).1
  have hqe : q ≠ e.blk := Blk.ne_ row seg.1 ne
  refine ⟨row.set_ _ _, ne, ?_, ?_, ?_, ⟨by simp, fun j hj => ?_⟩, trivial, seg.1.far (Ne.symm hqe) _, ?_, nodup, ⟨D, hD, own.setCell (Ne.symm (ne_map row own)) _⟩, tch.setCell (fun _ => Or.inl rfl) _⟩
  · rw [Array.getElem?_setIfInBounds_self_of_lt hso]; rfl
  · rw [Array.getElem?_setIfInBounds_ne (by omega)]; exact c1
  · rw [Array.getElem?_setIfInBounds_ne (by omega)]; exact c2
  · rw [Array.getElem?_setIfInBounds_ne (by omega)]
  · exact seg.2.keep fun x hx => Below.heap_setCell _ _ _ _ (by
      obtain ⟨c, hc⟩ := seg.2.lt x hx
      exact (Blk.ne_ row hc ne).symm)
theorem CutA.later {w : World} {q o b : Nat} {l r : List Ent} {a e : Ent} {T : TypeId} {cs : Array Value} {W : World} (h : CutA w q o b (l ++ [a]) r e T cs W) :
    CutB w q o b (l ++ [a]) r e T cs cs (W.setCell ⟨a.blk, 5, none⟩ (ptr (hd r none))) := by
  obtain ⟨row, ne, c0, c1, c2, seg, nodup, ⟨D, hD, own⟩, tch⟩ := h
  obtain ⟨n1, n2, n3, n4, n5⟩ := nd_split nodup
  obtain ⟨s1, s2, s3⟩ := seg_append.1 seg
  have ha := (seg_append.1 s1).2.1
  have hab : a.blk ∈ blks (l ++ [a]) := by simp [blks]
  refine ⟨row.far (Blk.ne_ row ha ne) _, ne, ?_, c1, c2, ⟨rfl, fun _ _ => rfl⟩, s1.set_next n4, ?_, ?_, nodup, ⟨D, hD, own.setCell (Ne.symm (ne_map ha own)) _⟩, tch.setCell (fun _ => Or.inr (Or.inr (by simp [blks]))) _⟩
  · rw [c0, hd_append, hd_append, hd_append, hd_append]; rfl
  · exact s2.far (n1 _ hab).symm _
  · exact s3.keep fun x hx => Below.heap_setCell _ _ _ _ (n3 _ hab _ hx).symm

theorem CutB.fin {w : World} {q o b : Nat} {l r : List Ent} {e : Ent} {T : TypeId} {cs cs1 cs2 : Array Value} {W Y : World} (h : CutB w q o b l r e T cs cs1 W) (hq : QRep w q o (some b) (l ++ e :: r))
    (row : Blk Y q T cs2) (c0 : cs2[o]? = cs1[o]?) (c1 : cs2[o + 1]? = some (ptr (tl none (l ++ r)))) (c2 : cs2[o + 2]? = cs1[o + 2]?)
    (segl : Seg Y linkT none l (hd r none)) (segr : Seg Y linkT (tl none l) r none) (own : ∀ D, W.ownsMap Try.prog 43 linkElem b (l ++ r).length D → Y.ownsMap Try.prog 43 linkElem b (l ++ r).length D) :
    QRep Y q o (some b) (l ++ r) := by
  obtain ⟨D, hD, hown⟩ := h.own
  obtain ⟨n1, n2, n3, n4, n5⟩ := nd_split h.nodup
  refine ⟨⟨cs2, T, row, h.ne, c0.trans h.c0, c1, c2.trans h.c2⟩, seg_append.2 ⟨segl, segr⟩, ?_, ?_, ?_, ⟨D, _, hD, own D hown, rfl⟩⟩
  · simp only [blks, List.map_append] at *
    exact List.nodup_append.2 ⟨n4, n5, fun x hx y hy => n3 x hx y hy⟩
  · have := hq.apart
    unfold Apart at *
    rw [List.pairwise_append] at this ⊢
    exact ⟨this.1, (List.pairwise_cons.1 this.2.1).2, fun x hx y hy => this.2.2 x hx y (by simp [hy])⟩
  · exact fun x hx => hq.ok x (by simp only [List.mem_append, List.mem_cons] at hx ⊢; rcases hx with hx | hx <;> simp [hx])
theorem CutB.last {w : World} {q o b : Nat} {l : List Ent} {e : Ent} {T : TypeId} {cs cs1 : Array Value} {W : World} (h : CutB w q o b l [] e T cs cs1 W) (hq : QRep w q o (some b) (l ++ [e])) :
    QRep (W.setCell ⟨q, o + 1, none⟩ (ptr (tl none l))) q o (some b) (l ++ []) ∧ Tch (Foot q (some b) (l ++ [e])) w (W.setCell ⟨q, o + 1, none⟩ (ptr (tl none l))) ∧ Blk (W.setCell ⟨q, o + 1, none⟩ (ptr (tl none l))) q T (cs1.setIfInBounds (o + 1) (ptr (tl none l))) := by
  have hs1 : o + 1 < cs1.size := (Array.getElem?_eq_some_iff.1 h.c1).1
  refine ⟨h.fin hq (h.row.set_ _ _) (Array.getElem?_setIfInBounds_ne (by omega)) ?_ (Array.getElem?_setIfInBounds_ne (by omega)) ?_ trivial (fun D hown => hown.setCell (Ne.symm (ne_map h.row hown)) _), h.tch.setCell (fun _ => Or.inl rfl) _, h.row.set_ _ _⟩
  · rw [Array.getElem?_setIfInBounds_self_of_lt hs1, List.append_nil]
  · exact h.segl.keep fun x hx => Below.heap_setCell _ _ _ _ (by
      obtain ⟨c, hc⟩ := h.segl.lt x hx
      exact (Blk.ne_ h.row hc h.ne).symm)
theorem CutB.mid {w : World} {q o b : Nat} {l r : List Ent} {c e : Ent} {T : TypeId} {cs cs1 : Array Value} {W : World} (h : CutB w q o b l (c :: r) e T cs cs1 W) (hq : QRep w q o (some b) (l ++ e :: c :: r)) :
    QRep (W.setCell ⟨c.blk, 4, none⟩ (ptr (tl none l))) q o (some b) (l ++ c :: r) ∧ Tch (Foot q (some b) (l ++ e :: c :: r)) w (W.setCell ⟨c.blk, 4, none⟩ (ptr (tl none l))) ∧ Blk (W.setCell ⟨c.blk, 4, none⟩ (ptr (tl none l))) q T cs1 := by
  obtain ⟨n1, n2, n3, n4, n5⟩ := nd_split h.nodup
  have hc := h.segr.1
  have hr : Blk (W.setCell ⟨c.blk, 4, none⟩ (ptr (tl none l))) q T cs1 := h.row.far (Blk.ne_ h.row hc h.ne) _
  refine ⟨h.fin hq hr rfl ?_ rfl ?_ (h.segr.set_prev n5) (fun D hown => hown.setCell (Ne.symm (ne_map hc hown)) _), h.tch.setCell (fun _ => Or.inr (Or.inr (by simp [blks]))) _, hr⟩
  · rw [h.c1, tl_append, tl_append]; rfl
  · exact h.segl.keep fun x hx => Below.heap_setCell _ _ _ _ (n3 _ hx _ (by simp [blks]))
end Go.Proofs.Ytadmfoglajhdcaa
