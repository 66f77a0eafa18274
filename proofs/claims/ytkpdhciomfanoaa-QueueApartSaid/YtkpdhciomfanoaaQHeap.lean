/- DERIVED LEMMAS: blocks that are known whole, what a call may touch, and a chain of links in memory. -/
import Derived.Test.YtkpdhciomfanoaaCom
import Derived.Laws.OwnMore
import Derived.Laws.Rows
import Derived.Maps.OwnSet
namespace Go.Proofs.Ytkpdhciomfanoaa
set_option linter.unusedVariables false
set_option linter.unusedSimpArgs false
open Go Go.RowKit

/-- block g is just the cells cs of element type t, none frozen -/
def Blk (w : World) (g : Nat) (t : TypeId) (cs : Array Value) : Prop := w.heap[g]? = some (.cells cs t (0, 0))
section
variable {w w' : World} {g : Nat} {t : TypeId} {cs : Array Value}
theorem Blk.lt (h : Blk w g t cs) : g < w.heap.size := by
  rcases Nat.lt_or_ge g w.heap.size with hlt | hge
  · exact hlt
  · unfold Blk at h; rw [Array.getElem?_eq_none hge] at h; cases h
theorem Blk.cell (h : Blk w g t cs) (i : Nat) : w.cell? ⟨g, i, none⟩ = cs[i]? := cell_of_row w g i cs t (0, 0) h
theorem Blk.frozen (h : Blk w g t cs) (i : Nat) : w.frozen? ⟨g, i, none⟩ = false := by
  unfold Blk at h
  simp [World.frozen?, h]
theorem Blk.new (w : World) (t : TypeId) (cs : Array Value) : Blk (w.alloc (.cells cs t)) w.heap.size t cs := heap_alloc_new w _
theorem Blk.drew (h : Blk w g t cs) : Blk w.drew g t cs := h
theorem Blk.drewN (h : Blk w g t cs) (n : Nat) : Blk (w.drewN n) g t cs := h
theorem Blk.alloc (h : Blk w g t cs) (o : Obj) : Blk (w.alloc o) g t cs := (Below.heap_alloc w o g h.lt).trans h
theorem Blk.set_ (h : Blk w g t cs) (i : Nat) (u : Value) : Blk (w.setCell ⟨g, i, none⟩ u) g t (cs.setIfInBounds i u) := by
  unfold Blk at h ⊢
  simp [World.setCell, Array.getElem?_modify, h]
theorem Blk.far (h : Blk w g t cs) {p : Addr} (hp : g ≠ p.block) (u : Value) : Blk (w.setCell p u) g t cs := (Below.heap_setCell w p u g hp).trans h
theorem Blk.of_eq (h : Blk w g t cs) (e : w'.heap[g]? = w.heap[g]?) : Blk w' g t cs := e.trans h
theorem Blk.ne_ {g' : Nat} {t' : TypeId} {cs' : Array Value} (h : Blk w g t cs) (h' : Blk w g' t' cs') (hne : t ≠ t') : g ≠ g' := by
  rintro rfl
  unfold Blk at h h'
  rw [h] at h'
  injection h' with h'
  injection h' with _ ht
  exact hne ht
end

/-- of the blocks that were there only those of S may have turned -/
structure Tch (S : Nat → Prop) (w w' : World) : Prop where
  os : w'.os = w.os
  tape : w'.tape = w.tape
  output : w'.output = w.output
  size : w.heap.size ≤ w'.heap.size
  block : ∀ k, k < w.heap.size → ¬ S k → w'.heap[k]? = w.heap[k]?
namespace Tch
variable {S S' : Nat → Prop} {a b c : World}
theorem refl (S : Nat → Prop) (w : World) : Tch S w w := ⟨rfl, rfl, rfl, Nat.le_refl _, fun _ _ _ => rfl⟩
theorem trans (h : Tch S a b) (k : Tch S' b c) (hs : ∀ i, S' i → i < a.heap.size → S i) : Tch S a c :=
  ⟨k.os.trans h.os, k.tape.trans h.tape, k.output.trans h.output, Nat.le_trans h.size k.size, fun i hi hn => (k.block i (Nat.lt_of_lt_of_le hi h.size) (fun h' => hn (hs i h' hi))).trans (h.block i hi hn)⟩
theorem mono (h : Tch S a b) (hs : ∀ i, S i → i < a.heap.size → S' i) : Tch S' a b := ⟨h.os, h.tape, h.output, h.size, fun i hi hn => h.block i hi (fun h' => hn (hs i h' hi))⟩
theorem drew (h : Tch S a b) : Tch S a b.drew := ⟨h.os, h.tape, h.output, h.size, h.block⟩
theorem drewN (h : Tch S a b) (n : Nat) : Tch S a (b.drewN n) := ⟨h.os, h.tape, h.output, h.size, h.block⟩
theorem alloc (h : Tch S a b) (o : Obj) : Tch S a (b.alloc o) :=
  ⟨h.os, h.tape, h.output, Nat.le_trans h.size (by simp), fun i hi hn => (Below.heap_alloc b o i (Nat.lt_of_lt_of_le hi h.size)).trans (h.block i hi hn)⟩
theorem setCell (h : Tch S a b) {p : Addr} (hp : p.block < a.heap.size → S p.block) (u : Value) : Tch S a (b.setCell p u) :=
  ⟨h.os, h.tape, h.output, by simpa [World.setCell] using h.size, fun i hi hn => (Below.heap_setCell b p u i (fun e => hn (by subst e; exact hp hi))).trans (h.block i hi hn)⟩
theorem grown (h : Tch S a b) {row : Option Nat} (hg : b.grownBy c row) (hr : ∀ g, row = some g → g < a.heap.size → S g) : Tch S a c :=
  ⟨hg.os.trans h.os, hg.tape.trans h.tape, hg.output.trans h.output, Nat.le_trans h.size hg.size, fun i hi hn =>
    (hg.block i (Nat.lt_of_lt_of_le hi h.size) (fun e => hn (hr i e.symm hi))).trans (h.block i hi hn)⟩
theorem of_ext (h : Ext a b) : Tch S a b := ⟨h.os, h.tape, h.output, h.size, fun i hi _ => h.block i hi⟩
theorem ext (h : Tch S a b) (hs : ∀ i, S i → a.heap.size ≤ i) : Ext a b := ⟨h.os, h.tape, h.output, h.size, fun i hi => h.block i hi (fun h' => by have := hs i h'; omega)⟩
theorem cell (h : Tch S a b) {g i : Nat} {v : Value} (hc : a.cell? ⟨g, i, none⟩ = some v) (hlt : g < a.heap.size) (hn : ¬ S g) : b.cell? ⟨g, i, none⟩ = some v := (World.cell?_of_block (w := a) (a := ⟨g, i, none⟩) (h.block g hlt hn)).trans hc
theorem blk (h : Tch S a b) {g : Nat} {t : TypeId} {cs : Array Value} (hb : Blk a g t cs) (hn : ¬ S g) : Blk b g t cs := (h.block g hb.lt hn).trans hb
end Tch

/-! ### a chain of links -/
def ptr (o : Option Nat) : Value := .pointer (o.map fun b => ⟨b, 0, none⟩)
/-- a task that waits: in block blk -/
structure Ent where
  run : Int
  kind : Int
  id : Int
  since : Int
  blk : Nat
def nodeV (e : Ent) (p n : Option Nat) : Array Value := #[.int .i64 e.run, .int .i64 e.kind, .int .i64 e.id, .int .i64 e.since, ptr p, ptr n]
def hd : List Ent → Option Nat → Option Nat
  | [], n => n
  | e :: _, _ => some e.blk
def tl : Option Nat → List Ent → Option Nat
  | p, [] => p
  | _, e :: r => tl (some e.blk) r
def Seg (w : World) (T : TypeId) : Option Nat → List Ent → Option Nat → Prop
  | _, [], _ => True
  | p, e :: r, n => Blk w e.blk T (nodeV e p (hd r n)) ∧ Seg w T (some e.blk) r n
def blks (l : List Ent) : List Nat := l.map (·.blk)
theorem hd_append (l r : List Ent) (n : Option Nat) : hd (l ++ r) n = hd l (hd r n) := by cases l <;> rfl
theorem tl_append : ∀ (p : Option Nat) (l r : List Ent), tl p (l ++ r) = tl (tl p l) r
  | _, [], _ => rfl
  | _, e :: l, r => tl_append (some e.blk) l r
theorem seg_append {w : World} {T : TypeId} : ∀ {p : Option Nat} {l r : List Ent} {n : Option Nat}, Seg w T p (l ++ r) n ↔ Seg w T p l (hd r n) ∧ Seg w T (tl p l) r n
  | p, [], r, n => by simp [Seg, tl]
  | p, e :: l, r, n => by
    simp only [List.cons_append, Seg, tl, hd_append]
    rw [seg_append (p := some e.blk) (l := l) (r := r) (n := n), and_assoc]
theorem Seg.keep {w w' : World} {T : TypeId} : ∀ {p : Option Nat} {l : List Ent} {n : Option Nat}, Seg w T p l n → (∀ b ∈ blks l, w'.heap[b]? = w.heap[b]?) → Seg w' T p l n
  | _, [], _, _, _ => trivial
  | _, e :: l, _, h, hk => ⟨h.1.of_eq (hk e.blk (by simp [blks])), Seg.keep h.2 (fun b hb => hk b (by simp only [blks, List.map_cons, List.mem_cons] at hb ⊢; exact Or.inr hb))⟩
theorem Seg.lt {w : World} {T : TypeId} : ∀ {p : Option Nat} {l : List Ent} {n : Option Nat}, Seg w T p l n → ∀ b ∈ blks l, ∃ cs, Blk w b T cs
  | _, [], _, _, b, hb => by simp [blks] at hb
  | _, e :: l, _, h, b, hb => by
    simp only [blks, List.map_cons, List.mem_cons] at hb
    rcases hb with rfl | hb
    · exact ⟨_, h.1⟩
    · exact Seg.lt h.2 b hb
/-- the last link leads to another one -/
theorem Seg.set_next {w : World} {T : TypeId} {p n n' : Option Nat} {l : List Ent} {a : Ent} (h : Seg w T p (l ++ [a]) n) (hn : (blks (l ++ [a])).Nodup) :
    Seg (w.setCell ⟨a.blk, 5, none⟩ (ptr n')) T p (l ++ [a]) n' := by
  rw [seg_append] at h ⊢
  obtain ⟨h1, h2, _⟩ := h
  have hna : a.blk ∉ blks l := by
    simp only [blks, List.map_append, List.map_cons, List.map_nil] at hn
    have := (List.nodup_append.1 hn).2.2
    intro hm
    exact this _ hm a.blk (by simp) rfl
  refine ⟨h1.keep fun b hb => Below.heap_setCell _ _ _ _ (fun e => hna (by subst e; exact hb)), ?_, trivial⟩
  have := h2.set_ 5 (ptr n')
  simpa [nodeV, hd] using this
/-- the first link leads back to another one -/
theorem Seg.set_prev {w : World} {T : TypeId} {p n p' : Option Nat} {r : List Ent} {b : Ent} (h : Seg w T p (b :: r) n) (hn : (blks (b :: r)).Nodup) :
    Seg (w.setCell ⟨b.blk, 4, none⟩ (ptr p')) T p' (b :: r) n := by
  obtain ⟨h1, h2⟩ := h
  have hna : b.blk ∉ blks r := by simp only [blks, List.map_cons, List.nodup_cons] at hn; exact hn.1
  refine ⟨?_, h2.keep fun x hx => Below.heap_setCell _ _ _ _ (fun e => hna (by subst e; exact hx))⟩
  have := h1.set_ 4 (ptr p')
  simpa [nodeV] using this
/-- a new link behind the last one -/
theorem Seg.snoc {w : World} {T : TypeId} {p : Option Nat} {l : List Ent} {e : Ent} (h : Seg w T p l (some e.blk)) (he : Blk w e.blk T (nodeV e (tl p l) none)) : Seg w T p (l ++ [e]) none :=
  seg_append.2 ⟨h, he, trivial⟩
end Go.Proofs.Ytkpdhciomfanoaa
