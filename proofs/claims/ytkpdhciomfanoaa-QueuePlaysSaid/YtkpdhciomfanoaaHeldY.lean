/- A queue of the law's own: what is asked of it. -/
import Derived.Test.YtkpdhciomfanoaaHeldX
namespace Go.Proofs.Ytkpdhciomfanoaa
set_option linter.unusedVariables false
set_option linter.unusedSimpArgs false
open Go Go.RowKit Go.Maps Go.ChangeMaps Go.MapKept
theorem heldx_has {w W : World} {q : Nat} {xs : List It} {X : Nat → Prop} (h : HeldX w W q xs X) (r k i : Int) (hok : TaskOk r k i) :
    Calls Try.prog 17 #[.pointer (some ⟨q, 0, none⟩), taskV r k i] W fun e W' => e = .returned (.bool (xs.any (isK · r k i))) ∧ HeldX w W' q xs X ∧ Ext W W' := by
  have h' := h
  obtain ⟨hE, ⟨bm, ys, hq, rfl, hf⟩, hlow⟩ := h
  rw [any_it]
  refine (has_any W q 0 bm ys r k i hq hok).mono ?_
  rintro e W' ⟨rfl, h1⟩
  exact ⟨rfl, h'.keep h1, h1⟩
theorem heldx_first_no {w W : World} {q : Nat} {X : Nat → Prop} (h : HeldX w W q [] X) :
    Calls Try.prog 18 #[.pointer (some ⟨q, 0, none⟩)] W fun e W' => e = .returned (.tuple #[taskV 0 0 0, .int .i64 0, .bool false]) ∧ HeldX w W' q [] X ∧ Ext W W' := by
  have h' := h
  obtain ⟨hE, ⟨bm, ys, hq, hm, hf⟩, hlow⟩ := h
  obtain rfl := List.map_eq_nil_iff.1 hm
  refine (first_no W q 0 bm hq).mono ?_
  rintro e W' ⟨rfl, h1⟩
  exact ⟨rfl, h'.keep h1, h1⟩
theorem heldx_first_yes {w W : World} {q : Nat} {x : It} {xs : List It} {X : Nat → Prop} (h : HeldX w W q (x :: xs) X) :
    Calls Try.prog 18 #[.pointer (some ⟨q, 0, none⟩)] W fun e W' => e = .returned (.tuple #[taskV x.run x.kind x.id, .int .i64 x.since, .bool true]) ∧ HeldX w W' q (x :: xs) X ∧ Ext W W' := by
  have h' := h
  obtain ⟨hE, ⟨bm, ys, hq, hm, hf⟩, hlow⟩ := h
  cases ys with
  | nil => simp at hm
  | cons y ys =>
    simp only [List.map_cons, List.cons.injEq] at hm
    obtain ⟨rfl, rfl⟩ := hm
    refine (first_yes W q 0 bm y ys hq).mono ?_
    rintro e W' ⟨rfl, h1⟩
    exact ⟨rfl, h'.keep h1, h1⟩
theorem heldx_take_no {w W : World} {q : Nat} {X : Nat → Prop} (h : HeldX w W q [] X) :
    Calls Try.prog 9 #[.pointer (some ⟨q, 0, none⟩)] W fun e W' => e = .returned (.tuple #[taskV 0 0 0, .bool false]) ∧ HeldX w W' q [] X ∧ Ext W W' := by
  have h' := h
  obtain ⟨hE, ⟨bm, ys, hq, hm, hf⟩, hlow⟩ := h
  obtain rfl := List.map_eq_nil_iff.1 hm
  refine (take_no W q 0 bm hq).mono ?_
  rintro e W' ⟨rfl, h1⟩
  exact ⟨rfl, h'.keep h1, h1⟩
theorem find_it (ys : List Ent) (r k i : Int) : (ys.map Ent.it).find? (isK · r k i) = (look ys r k i).map Ent.it := by
  unfold look
  rw [List.find?_map]; rfl
theorem heldx_since_yes {w W : World} {q : Nat} {xs : List It} {X : Nat → Prop} (h : HeldX w W q xs X) (r k i : Int) (x : It) (hok : TaskOk r k i) (hx : xs.find? (isK · r k i) = some x) :
    Calls Try.prog 16 #[.pointer (some ⟨q, 0, none⟩), taskV r k i] W fun e W' => e = .returned (.tuple #[.int .i64 x.since, .bool true]) ∧ HeldX w W' q xs X ∧ Ext W W' := by
  have h' := h
  obtain ⟨hE, ⟨bm, ys, hq, rfl, hf⟩, hlow⟩ := h
  rw [find_it] at hx
  obtain ⟨e, he, rfl⟩ := Option.map_eq_some_iff.1 hx
  refine (since_yes W q 0 bm ys e r k i hq hok he).mono ?_
  rintro e' W' ⟨rfl, h1⟩
  exact ⟨rfl, h'.keep h1, h1⟩
theorem heldx_since_no {w W : World} {q : Nat} {xs : List It} {X : Nat → Prop} (h : HeldX w W q xs X) (r k i : Int) (hok : TaskOk r k i) (hx : xs.find? (isK · r k i) = none) :
    Calls Try.prog 16 #[.pointer (some ⟨q, 0, none⟩), taskV r k i] W fun e W' => e = .returned (.tuple #[.int .i64 0, .bool false]) ∧ HeldX w W' q xs X ∧ Ext W W' := by
  have h' := h
  obtain ⟨hE, ⟨bm, ys, hq, rfl, hf⟩, hlow⟩ := h
  rw [find_it] at hx
  have he := Option.map_eq_none_iff.1 hx
  refine (since_no W q 0 bm ys r k i hq hok he).mono ?_
  rintro e' W' ⟨rfl, h1⟩
  exact ⟨rfl, h'.keep h1, h1⟩
def flatIt (xs : List It) : List Value := xs.flatMap fun e => [.int .i64 e.run, .int .i64 e.kind, .int .i64 e.id]
theorem flat_it (ys : List Ent) : flat ys = flatIt (ys.map Ent.it) := by
  unfold flat flatIt
  rw [List.flatMap_map]; rfl
theorem heldx_list {w W : World} {q : Nat} {xs : List It} {X : Nat → Prop} (h : HeldX w W q xs X) (hlen : xs.length < 1000) :
    Calls Try.prog 13 #[.pointer (some ⟨q, 0, none⟩)] W fun e W' => ∃ v, e = .returned v ∧ W'.ownsRow W.heap.size 32 3 v xs.length (flatIt xs) ∧ HeldX w W' q xs X ∧ Ext W W' := by
  have h' := h
  obtain ⟨hE, ⟨bm, ys, hq, rfl, hf⟩, hlow⟩ := h
  refine (list_any W q 0 bm ys hq (by simpa using hlen)).mono ?_
  rintro e W' ⟨v, rfl, hown, h1⟩
  rw [flat_it] at hown
  exact ⟨v, rfl, by simpa using hown, h'.keep h1, h1⟩
end Go.Proofs.Ytkpdhciomfanoaa
