/- DERIVED LEMMAS, OF NO PROGRAM: a world with new blocks behind it; a class of such worlds for regions that draw their order. -/
import Derived.Below
import Derived.Deep.Draws
import Derived.ChangeSame
import Derived.Test.YtnbdcdeidhhgoaaDoorReg
namespace Go.Proofs.YtnbdcdeidhhgoaaDoor
set_option maxRecDepth 4000
set_option linter.unusedVariables false
set_option linter.unusedSimpArgs false
open Go Go.RowKit

/-- w is W with new blocks behind it, and draws made. -/
def Ext (W w : World) : Prop := Below W.heap.size W w
theorem Ext.refl (W : World) : Ext W W := Below.refl _ _
theorem Ext.trans {a b c : World} (h : Ext a b) (k : Ext b c) : Ext a c := Below.trans h (Below.mono k h.size)
theorem Ext.drew {a b : World} (h : Ext a b) : Ext a b.drew := Below.drew h
theorem Ext.drewN {a b : World} (h : Ext a b) (n : Nat) : Ext a (b.drewN n) := ⟨h.os, h.tape, h.output, h.size, h.block⟩
theorem Ext.alloc {a b : World} (h : Ext a b) (o : Obj) : Ext a (b.alloc o) := Below.alloc h h.size o
theorem Ext.setCell {a b : World} (h : Ext a b) {p : Addr} (hp : a.heap.size ≤ p.block) (u : Value) : Ext a (b.setCell p u) := Below.setCell h hp u
theorem Ext.le {a b : World} (h : Ext a b) : a.heap.size ≤ b.heap.size := h.size
theorem Ext.cell {W w : World} (h : Ext W w) (b o : Nat) (hb : b < W.heap.size) : w.cell? ⟨b, o, none⟩ = W.cell? ⟨b, o, none⟩ := Below.cell (p := ⟨b, o, none⟩) h hb
theorem Ext.frozen {W w : World} (h : Ext W w) (b o : Nat) (hb : b < W.heap.size) : w.frozen? ⟨b, o, none⟩ = W.frozen? ⟨b, o, none⟩ := Below.frozen (p := ⟨b, o, none⟩) h hb
theorem Ext.below {W w : World} (h : Ext W w) : Below W.heap.size W w := h
theorem ext_alloc (w : World) (o : Obj) : Ext w (w.alloc o) := (Ext.refl w).alloc o

structure ExtOf (W : World) where
  val : World
  property : Ext W val
instance instExtOf (W : World) : Nonempty (ExtOf W) := ⟨⟨W, Ext.refl W⟩⟩
theorem quiet_ext {P : Program} {f : FuncId} {args : Array Value} {v : Value} {W : World} {x : ExtOf W} (h : Calls P f args x.val fun e w'' => e = .returned v ∧ Ext x.val w'') :
    Calls P f args x.val fun e w'' => e = .returned v ∧ ∃ y : ExtOf W, w'' = y.val :=
  h.mono fun _ w'' ⟨he, hw⟩ => ⟨he, ⟨w'', x.property.trans hw⟩, rfl⟩
theorem ExtOf.cell {W : World} (b o : Nat) (hb : b < W.heap.size) (x : ExtOf W) : x.val.cell? ⟨b, o, none⟩ = W.cell? ⟨b, o, none⟩ := x.property.cell b o hb

theorem region_ext {P : Program} {id : Nat} {Q : Exit → Act → World → Prop} {a : Act} {w : World} {l : List Oper} (hm : P.follows .mixedOrders = true) (hB : Region.lexB .any l.toArray = true)
    (h : wpQuiet P l.toArray (fun w' => ∃ x : ExtOf w, w' = x.val) (fun a' => ∀ w', (∃ x : ExtOf w, w' = x.val) → Q .normal a' w') l a) : (Code.region id l.toArray true).wp P Q a w :=
  region_quiet _ hm hB ⟨⟨w.drew, (Ext.refl w).drew⟩, rfl⟩ h
theorem region_ext_tail {P : Program} {id : Nat} {Q : Exit → Act → World → Prop} {a : Act} {w : World} {l : List Oper} (n : Nat) (hm : P.follows .mixedOrders = true) (hB : Region.lexTailB .any l.toArray n = true)
    (h : wpQuiet P l.toArray (fun w' => ∃ x : ExtOf w, w' = x.val) (fun a' => ∀ w', (∃ x : ExtOf w, w' = x.val) → wpList P l.toArray Q (l.drop n) a' w') (l.take n) a) : (Code.region id l.toArray true).wp P Q a w :=
  region_head_tail n _ hm hB ⟨⟨w.drew, (Ext.refl w).drew⟩, rfl⟩ h

/-- the head only reads (it may draw), the rest in one forced order -/
theorem region_drew_tail {P : Program} {id : Nat} {Q : Exit → Act → World → Prop} {a : Act} {w : World} {l : List Oper} (n : Nat) (hm : P.follows .mixedOrders = true) (hB : Region.lexTailB .any l.toArray n = true)
    (h : wpQuiet P l.toArray (fun w' => ∃ k, w' = w.drewN k) (fun a' => ∀ w', (∃ k, w' = w.drewN k) → wpList P l.toArray Q (l.drop n) a' w') (l.take n) a) : (Code.region id l.toArray true).wp P Q a w :=
  region_head_tail n _ hm hB ⟨1, rfl⟩ h

theorem cell_box {w : World} (cs : Array Value) (T : TypeId) (i : Nat) : (w.alloc (.cells cs T)).cell? ⟨w.heap.size, i, none⟩ = cs[i]? := by
  have h : (w.alloc (.cells cs T)).heap[w.heap.size]? = some (.cells cs T (0, 0)) := heap_alloc_new w _
  exact cell_of_row _ _ i cs T (0, 0) h
end Go.Proofs.YtnbdcdeidhhgoaaDoor
