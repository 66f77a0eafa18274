/- DERIVED LEMMAS, OF NO PROGRAM: things of a law's own side by side, more of them: picked, read, stored, grown. -/
import Derived.Test.YtnbdcdeidhhgoaaDoorDMap
import Derived.Test.YtnbdcdeidhhgoaaDoorRow
import Derived.Test.YtnbdcdeidhhgoaaDoorBytes
import Derived.Test.YtnbdcdeidhhgoaaDoorOpenR
namespace Go.Proofs.YtnbdcdeidhhgoaaDoor
set_option maxRecDepth 4000
set_option linter.unusedVariables false
set_option linter.unusedSimpArgs false
open Go Go.RowKit Go.MapKept Go.ChangeMaps
def pickA (l : List Asr) (is : List Nat) : List Asr := is.map fun i => l.getD i (fun _ _ => False)
theorem map_range_getD {α : Type} (l : List α) (d : α) : (List.range l.length).map (fun i => l.getD i d) = l := by
  apply List.ext_getElem
  · simp
  · intro i h1 h2
    simp at h1 h2
    simp [h2]
section
variable {w W W' : World} {p q : Asr} {ps qs : List Asr} {g : Nat} {T : TypeId} {cs old : Array Value}
theorem Has.pick {l : List Asr} (h : Has w W (l ++ ps)) (is : List Nat) (hp : is.isPerm (List.range l.length) = true) : Has w W (pickA l is ++ ps) := by
  refine h.perm (List.Perm.append_right ps ?_)
  have h1 := (List.isPerm_iff.1 hp).map (fun i => l.getD i (fun _ _ => False))
  rw [map_range_getD] at h1
  exact h1.symm
theorem Locs.append : ∀ {ps qs : List Asr}, Locs ps → Locs qs → Locs (ps ++ qs)
  | [], _, _, h => h
  | _ :: _, _, .cons h1 h2, h => .cons h1 (Locs.append h2 h)
theorem Locs.map {α : Type} (f : α → Asr) (hf : ∀ x, Loc (f x)) : ∀ l : List α, Locs (l.map f)
  | [] => .nil
  | x :: l => .cons (hf x) (Locs.map f hf l)
theorem Locs.all : ∀ {ps : List Asr}, (∀ p ∈ ps, Loc p) → Locs ps
  | [], _ => .nil
  | p :: ps, h => .cons (h p (by simp)) (Locs.all fun q hq => h q (by simp [hq]))
theorem Locs.mem : ∀ {ps : List Asr}, Locs ps → ∀ p ∈ ps, Loc p
  | _ :: _, .cons h1 h2, p, hp => by
    rcases List.mem_cons.1 hp with rfl | hp
    · exact h1
    · exact Locs.mem h2 p hp
theorem Locs.left (h : Locs (ps ++ qs)) : Locs ps := Locs.all fun p hp => Locs.mem h p (by simp [hp])
theorem Locs.right (h : Locs (ps ++ qs)) : Locs qs := Locs.all fun p hp => Locs.mem h p (by simp [hp])
theorem Locs.perm (hp : ps.Perm qs) (h : Locs ps) : Locs qs := Locs.all fun p hq => Locs.mem h p (hp.mem_iff.2 hq)
/-- the one in the middle comes first -/
theorem Has.front {a b : List Asr} (h : Has w W (a ++ p :: b)) : Has w W (p :: (a ++ b)) := h.perm List.perm_middle
theorem Has.back {a b : List Asr} (h : Has w W (p :: (a ++ b))) : Has w W (a ++ p :: b) := h.perm List.perm_middle.symm
theorem Has.comm {a b c : List Asr} (h : Has w W (a ++ (b ++ c))) : Has w W (b ++ (a ++ c)) := h.perm (by
  rw [← List.append_assoc, ← List.append_assoc]
  exact List.Perm.append_right c List.perm_append_comm)
theorem Has.dropA : ∀ {a : List Asr}, Has w W (a ++ ps) → Has w W ps
  | [], h => h
  | _ :: _, h => Has.dropA (Has.drop h)
theorem Has.set (h : Has w W (blkA g T cs :: ps)) (hl : Locs ps) (i : Nat) (v : Value) : Has w (W.setCell ⟨g, i, none⟩ v) (blkA g T (cs.setIfInBounds i v) :: ps) :=
  h.next hl fun F hF => by
    obtain ⟨hb, rfl⟩ := hF
    exact Next.mk (F' := fun k => k = g) ⟨hb.set_ i v, rfl⟩ ((Tch.refl (fun k => k = g) W).setCell (p := ⟨g, i, none⟩) (fun _ => rfl) v : Tch (fun k => k = g) W _) (fun k hk => Or.inl hk)
theorem Has.row (h : Has w W (blkA g T old :: ps)) (hl : Locs ps) : Has w (W.setRow g cs) (blkA g T cs :: ps) :=
  h.next hl fun F hF => by
    obtain ⟨hb, rfl⟩ := hF
    exact Next.mk (F' := fun k => k = g) ⟨setRow_blk hb, rfl⟩ ⟨rfl, rfl, rfl, by simp, fun k hk hn => setRow_other _ _ _ _ (fun e => hn e)⟩ (fun k hk => Or.inl hk)
theorem Has.new (h : Has w W ps) (hl : Locs ps) (T : TypeId) (cs : Array Value) : Has w (W.alloc (.cells cs T)) (blkA W.heap.size T cs :: ps) :=
  h.add hl (ext_alloc W _) (F := fun k => k = W.heap.size) ⟨Blk.new W T cs, rfl⟩ (fun k hk => by omega)
theorem Has.newObj (h : Has w W ps) (hl : Locs ps) (o : Obj) : Has w (W.alloc o) (objA W.heap.size o :: ps) :=
  h.add hl (ext_alloc W _) (F := fun k => k = W.heap.size) ⟨heap_alloc_new W _, rfl⟩ (fun k hk => by omega)
theorem Has.grow {e : TypeId} {sz n n' : Nat} {v v' : Value} {xs xs' : List Value} (h : Has w W (rowA e sz v n xs :: ps)) (hl : Locs ps) (hown : W'.ownsRow 0 e sz v' n' xs') (hg : W.grownBy W' v.ownBlock) (hf : Fresh W v v') : Has w W' (rowA e sz v' n' xs' :: ps) :=
  h.next hl fun F hF => by
    obtain ⟨_, rfl⟩ := hF
    exact Next.mk ⟨hown, rfl⟩ (grownBy.tch hg) hf.1
theorem Has.fresh {e : TypeId} {sz n : Nat} {v : Value} {xs : List Value} (h : Has w W ps) (hl : Locs ps) (hE : Ext W W') (hown : W'.ownsRow W.heap.size e sz v n xs) : Has w W' (rowA e sz v n xs :: ps) :=
  h.add hl hE (F := fun k => v.ownBlock = some k) ⟨ownsRow_base hown (fun _ _ => Nat.zero_le _), rfl⟩ (fun k hk => (hown.lt k hk).1)
theorem Has.rowNil (h : Has w W ps) (hl : Locs ps) (e : TypeId) (sz : Nat) : Has w W (rowA e sz (.slice none 0 0) 0 [] :: ps) :=
  h.add hl (Ext.refl W) (F := fun k => (Value.slice none 0 0).ownBlock = some k) ⟨World.ownsRow_nil _ _ _ _, rfl⟩ (fun k hk => by simp [Value.ownBlock] at hk)
theorem Has.memlo : ∀ {ps : List Asr} {X : Nat → Prop}, Side w W ps X → ∀ {p : Asr}, p ∈ ps → ∃ F, p W F ∧ ∀ k, F k → w.heap.size ≤ k
  | [], _, _, _, h => by simp at h
  | _ :: _, _, ⟨F, h1, h2, h3⟩, _, h => by
    rcases List.mem_cons.1 h with rfl | h
    · exact ⟨F, h1, fun k hk => (h2 k hk).1⟩
    · exact Has.memlo h3 h
theorem Has.owned {e : TypeId} {size n : Nat} {v : Value} {xs : List Value} (h : Has w W ps) (hp : rowA e size v n xs ∈ ps) : W.ownsRow 0 e size v n xs ∧ ∀ g, v.ownBlock = some g → w.heap.size ≤ g := by
  obtain ⟨F, ⟨h1, rfl⟩, h2⟩ := Has.memlo h hp
  exact ⟨h1, h2⟩
theorem Has.blk (h : Has w W ps) (hp : blkA g T cs ∈ ps) : Blk W g T cs := by
  obtain ⟨F, h1, _⟩ := Has.memlo h hp
  exact h1.1
theorem Has.blk0 (h : Has w W (blkA g T cs :: ps)) : Blk W g T cs := h.blk (by simp)
theorem Has.row0 {e : TypeId} {sz n : Nat} {v : Value} {xs : List Value} (h : Has w W (rowA e sz v n xs :: ps)) : W.ownsRow 0 e sz v n xs := (h.owned (by simp)).1
/-- a call that makes things of its own and leaves the others -/
theorem Has.join {X Y : World} (h : Has w X ps) (hl : Locs ps) (h2 : Has X Y qs) (hq : Locs qs) : Has w Y (qs ++ ps) := by
  have : ∀ (qs : List Asr) (Z : Nat → Prop), Side X Y qs Z → Side w Y (qs ++ ps) (fun k => Z k ∧ X.heap.size ≤ k) := by
    intro qs
    induction qs with
    | nil =>
      intro Z hZ
      refine Side.step hl h (Tch.of_ext hZ) (h.base.trans hZ) fun k hk => Or.inr hk.2
    | cons q qs ih =>
      rintro Z ⟨F, h1, h2, h3⟩
      refine ⟨F, h1, fun k hk => ⟨Nat.le_trans h.base.le (h2 k hk).1, fun hz => (h2 k hk).2 hz.1⟩, (ih _ h3).weaken fun k hk => ?_⟩
      rcases hk with hk | hk
      · exact ⟨Or.inl hk.1, hk.2⟩
      · exact ⟨Or.inr hk, (h2 k hk).1⟩
  exact (this qs (fun _ => False) h2).weaken fun k hk => hk.elim
end
/-! ### rows -/
theorem row_at {W : World} {e : TypeId} {p : Option Addr} {b n c i : Nat} {xs : List Value} {x : Value} (h : W.ownsRow b e 1 (.slice p n c) n xs) (hx : xs[i]? = some x) : ∃ g, p = some ⟨g, 0, none⟩ ∧ W.cell? ⟨g, i, none⟩ = some x := by
  rcases h.2 with ⟨hv, hn⟩ | ⟨g, cap, cur, hv, _⟩
  · have := h.1
    have := (List.getElem?_eq_some_iff.1 hx).1
    omega
  · have hc := h.cells (g := g) (by rw [hv]; rfl) i x hx
    injection hv with h1 h2 h3
    refine ⟨g, h1, ?_⟩
    rwa [Go.WideShapes.add_plain, Nat.zero_add] at hc
/-- a row of bytes of one's own -/
abbrev BRow (v : Value) (l : List UInt8) : Asr := rowA 5 1 v l.length (u8s l)
theorem BRow_loc (v : Value) (l : List UInt8) : Loc (BRow v l) := rowA_loc _ _ _ _ _
theorem u8s_get (l : List UInt8) (i : Nat) (h : i < l.length) : (u8s l)[i]? = some (.int .u8 ((l.getD i 0).toNat : Int)) := by
  rw [u8s, List.getElem?_map, List.getElem?_eq_getElem h, List.getD_eq_getElem?_getD, List.getElem?_eq_getElem h]; rfl
theorem u8s_set (l : List UInt8) (i : Nat) (x : UInt8) : (u8s l).set i (.int .u8 (x.toNat : Int)) = u8s (l.set i x) := by
  unfold u8s; rw [List.map_set]
theorem u8s_take (l : List UInt8) (n : Nat) : (u8s l).take n = u8s (l.take n) := by unfold u8s; rw [List.map_take]
theorem u8s_drop (l : List UInt8) (n : Nat) : (u8s l).drop n = u8s (l.drop n) := by unfold u8s; rw [List.map_drop]
end Go.Proofs.YtnbdcdeidhhgoaaDoor
