/- DERIVED LEMMAS: blocks that are known whole, what a call may touch, and a chain of links in memory. -/
import Derived.Test.YtadmfoglajhdcaaCom
import Derived.Test.YtadmfoglajhdcaaSep
import Derived.Laws.OwnMore
import Derived.Laws.Rows
import Derived.Maps.OwnSet
namespace Go.Proofs.Ytadmfoglajhdcaa
set_option maxRecDepth 4000
set_option linter.unusedVariables false
set_option linter.unusedSimpArgs false
open Go Go.RowKit

/-! ### a chain of links -/
def ptr (o : Option Nat) : Value := .pointer (o.map fun b => ⟨b, 0, none⟩)
/-- a task that waits: in block blk -/
structure Ent where
  run : Int
  kind : Int
  id : Int
  since : Int
  blk : Nat
def nodeV (e : Ent) (p n : Option Nat) : Array Value := #[.int .i64 e.run, .int .i64 e.kind, .int .i64 e.id, .int .i64 e.since, ptr p, ptr n]
def hd : List Ent → Option Nat → Option Nat
  | [], n => n
  | e :: _, _ => some e.blk
def tl : Option Nat → List Ent → Option Nat
  | p, [] => p
  | _, e :: r => tl (some e.blk) r
def Seg (w : World) (T : TypeId) : Option Nat → List Ent → Option Nat → Prop
  | _, [], _ => True
  | p, e :: r, n => Blk w e.blk T (nodeV e p (hd r n)) ∧ Seg w T (some e.blk) r n
def blks (l : List Ent) : List Nat := l.map (·.blk)
theorem hd_append (l r : List Ent) (n : Option Nat) : hd (l ++ r) n = hd l (hd r n) := by cases l <;> rfl
theorem tl_append : ∀ (p : Option Nat) (l r : List Ent), tl p (l ++ r) = tl (tl p l) r
  | _, [], _ => rfl
  | _, e :: l, r => tl_append (some e.blk) l r
theorem seg_append {w : World} {T : TypeId} : ∀ {p : Option Nat} {l r : List Ent} {n : Option Nat}, Seg w T p (l ++ r) n ↔ Seg w T p l (hd r n) ∧ Seg w T (tl p l) r n
  | p, [], r, n => by simp [Seg, tl]
  | p, e :: l, r, n => by
    simp only [List.cons_append, Seg, tl, hd_append]
    rw [seg_append (p := some e.blk) (l := l) (r := r) (n := n), and_assoc]
theorem Seg.keep {w w' : World} {T : TypeId} : ∀ {p : Option Nat} {l : List Ent} {n : Option Nat}, Seg w T p l n → (∀ b ∈ blks l, w'.heap[b]? = w.heap[b]?) → Seg w' T p l n
  | _, [], _, _, _ => trivial
  | _, e :: l, _, h, hk => ⟨h.1.of_eq (hk e.blk (by simp [blks])), Seg.keep h.2 (fun b hb => hk b (by simp only [blks, List.map_cons, List.mem_cons] at hb ⊢; exact Or.inr hb))⟩
theorem Seg.lt {w : World} {T : TypeId} : ∀ {p : Option Nat} {l : List Ent} {n : Option Nat}, Seg w T p l n → ∀ b ∈ blks l, ∃ cs, Blk w b T cs
  | _, [], _, _, b, hb => by simp [blks] at hb
  | _, e :: l, _, h, b, hb => by
    simp only [blks, List.map_cons, List.mem_cons] at hb
    rcases hb with rfl | hb
    · exact ⟨_, h.1⟩
    · exact Seg.lt h.2 b hb
/-- the last link leads to another one -/
theorem Seg.set_next {w : World} {T : TypeId} {p n n' : Option Nat} {l : List Ent} {a : Ent} (h : Seg w T p (l ++ [a]) n) (hn : (blks (l ++ [a])).Nodup) :
    Seg (w.setCell ⟨a.blk, 5, none⟩ (ptr n')) T p (l ++ [a]) n' := by
  rw [seg_append] at h ⊢
  obtain ⟨h1, h2, _⟩ := h
  have hna : a.blk ∉ blks l := by
    simp only [blks, List.map_append, List.map_cons, List.map_nil] at hn
    have := (List.nodup_append.1 hn).2.2
    intro hm
    exact this _ hm a.blk (by simp) rfl
  refine ⟨h1.keep fun b hb => Below.heap_setCell _ _ _ _ (fun e => hna (by subst e; exact hb)), ?_, trivial⟩
  have := h2.set_ 5 (ptr n')
  simpa [nodeV, hd] using this
/-- the first link leads back to another one -/
theorem Seg.set_prev {w : World} {T : TypeId} {p n p' : Option Nat} {r : List Ent} {b : Ent} (h : Seg w T p (b :: r) n) (hn : (blks (b :: r)).Nodup) :
    Seg (w.setCell ⟨b.blk, 4, none⟩ (ptr p')) T p' (b :: r) n := by
  obtain ⟨h1, h2⟩ := h
  have hna : b.blk ∉ blks r := by simp only [blks, List.map_cons, List.nodup_cons] at hn; exact hn.1
  refine ⟨?_, h2.keep fun x hx => Below.heap_setCell _ _ _ _ (fun e => hna (by subst e; exact hx))⟩
  have := h1.set_ 4 (ptr p')
  simpa [nodeV] using this
/-- a new link behind the last one -/
theorem Seg.snoc {w : World} {T : TypeId} {p : Option Nat} {l : List Ent} {e : Ent} (h : Seg w T p l (some e.blk)) (he : Blk w e.blk T (nodeV e (tl p l) none)) : Seg w T p (l ++ [e]) none :=
  seg_append.2 ⟨h, he, trivial⟩
end Go.Proofs.Ytadmfoglajhdcaa
