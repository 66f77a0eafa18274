/- A queue of the law's own: what it holds, as numbers. -/
import Derived.Test.YtkpdhciomfanoaaWaits
namespace Go.Proofs.Ytkpdhciomfanoaa
set_option linter.unusedVariables false
set_option linter.unusedSimpArgs false
open Go Go.RowKit Go.Maps Go.ChangeMaps Go.MapKept
/-- a task that waits: run, kind, id, since -/
structure It where
  run : Int
  kind : Int
  id : Int
  since : Int
def Ent.it (e : Ent) : It := ⟨e.run, e.kind, e.id, e.since⟩
def isK (x : It) (r k i : Int) : Bool := x.run == r && x.kind == k && x.id == i
structure Held (w W : World) (q : Nat) (xs : List It) : Prop where
  ext : Ext w W
  rep : ∃ bm ys, QRep W q 0 bm ys ∧ ys.map Ent.it = xs ∧ ∀ k, Foot q bm ys k → w.heap.size ≤ k
theorem Held.keep {w W W' : World} {q : Nat} {xs : List It} (h : Held w W q xs) (hE : Ext W W') : Held w W' q xs := by
  obtain ⟨he, bm, ys, hq, hm, hf⟩ := h
  exact ⟨he.trans hE, bm, ys, hq.ext hE, hm, hf⟩
theorem any_it (ys : List Ent) (r k i : Int) : (ys.map Ent.it).any (isK · r k i) = ys.any (isT · r k i) := by
  rw [List.any_map]; rfl
theorem ext_foot {w W W' : World} {S : Nat → Prop} (hE : Ext w W) (ht : Tch S W W') (hf : ∀ k, S k → w.heap.size ≤ k) : Ext w W' :=
  ((Tch.of_ext (S := fun k => w.heap.size ≤ k) hE).trans ht (fun i hi _ => hf i hi)).ext (fun _ h => h)
theorem held_new {w W : World} {q : Nat} {T : TypeId} (hE : Ext w W) (hq : w.heap.size ≤ q) (h : Blk W q T #[.pointer none, .pointer none, .map none]) (hT : T ≠ 61) : Held w W q [] :=
  ⟨hE, none, [], qrep_new h hT, rfl, fun k hk => by rcases hk with rfl | hk | hk; exact hq; exact absurd hk (by simp); simp [blks] at hk⟩
theorem held_add {w W : World} {q : Nat} {xs : List It} (h : Held w W q xs) (r k i s : Int) (hok : Ent.Ok ⟨r, k, i, s, 0⟩) (hin : xs.any (isK · r k i) = false) (hl : (xs.length : Int) < 128) :
    Calls Try.prog 8 #[.pointer (some ⟨q, 0, none⟩), taskV r k i, .int .i64 s] W fun e W' => e = .returned (.int .i64 0) ∧ Held w W' q (xs ++ [⟨r, k, i, s⟩]) := by
  obtain ⟨hE, bm, ys, hq, rfl, hf⟩ := h
  rw [any_it] at hin
  refine (add_ok W q 0 bm ys r k i s hq hok hin (by simpa using hl)).mono ?_
  rintro e W' ⟨rfl, bm', b, hb, hq', ht, -, hbm⟩
  refine ⟨rfl, ext_foot hE ht hf, bm', _, hq', by simp [Ent.it], fun k hk => ?_⟩
  rcases hk with rfl | hk | hk
  · exact hf _ (Or.inl rfl)
  · rcases hbm _ hk with h1 | h1
    · exact hf _ (Or.inr (Or.inl h1))
    · exact Nat.le_trans hE.le h1
  · simp only [blks, List.map_append, List.mem_append, List.map_cons, List.map_nil, List.mem_singleton] at hk
    rcases hk with hk | rfl
    · exact hf _ (Or.inr (Or.inr hk))
    · exact Nat.le_trans hE.le hb
theorem held_full {w W : World} {q : Nat} {xs : List It} (h : Held w W q xs) (r k i s : Int) (hok : Ent.Ok ⟨r, k, i, s, 0⟩) (hin : xs.any (isK · r k i) = false) (hl : 128 ≤ (xs.length : Int)) :
    Calls Try.prog 8 #[.pointer (some ⟨q, 0, none⟩), taskV r k i, .int .i64 s] W fun e W' => e = .returned (.int .i64 3) ∧ Held w W' q xs := by
  have h' := h
  obtain ⟨hE, bm, ys, hq, rfl, hf⟩ := h
  rw [any_it] at hin
  refine (add_full W q 0 bm ys r k i s hq hok hin (by simpa using hl)).mono ?_
  rintro e W' ⟨rfl, h1⟩
  exact ⟨rfl, h'.keep h1⟩
theorem held_twice {w W : World} {q : Nat} {xs : List It} (h : Held w W q xs) (r k i s : Int) (hok : Ent.Ok ⟨r, k, i, s, 0⟩) (hin : xs.any (isK · r k i) = true) :
    Calls Try.prog 8 #[.pointer (some ⟨q, 0, none⟩), taskV r k i, .int .i64 s] W fun e W' => e = .returned (.int .i64 5) ∧ Held w W' q xs := by
  have h' := h
  obtain ⟨hE, bm, ys, hq, rfl, hf⟩ := h
  rw [any_it] at hin
  refine (add_twice W q 0 bm ys r k i s hq hok hin).mono ?_
  rintro e W' ⟨rfl, h1⟩
  exact ⟨rfl, h'.keep h1⟩
theorem held_len {w W : World} {q : Nat} {xs : List It} (h : Held w W q xs) :
    Calls Try.prog 10 #[.pointer (some ⟨q, 0, none⟩)] W fun e W' => e = .returned (.int .i64 xs.length) ∧ Held w W' q xs := by
  have h' := h
  obtain ⟨hE, bm, ys, hq, rfl, hf⟩ := h
  refine (len_any W q 0 bm ys hq).mono ?_
  rintro e W' ⟨rfl, h1⟩
  exact ⟨by simp, h'.keep h1⟩
theorem held_take {w W : World} {q : Nat} {x : It} {xs : List It} (h : Held w W q (x :: xs)) :
    Calls Try.prog 9 #[.pointer (some ⟨q, 0, none⟩)] W fun e W' => e = .returned (.tuple #[taskV x.run x.kind x.id, .bool true]) ∧ Held w W' q xs := by
  obtain ⟨hE, bm, ys, hq, hm, hf⟩ := h
  cases ys with
  | nil => simp at hm
  | cons y ys =>
    simp only [List.map_cons, List.cons.injEq] at hm
    obtain ⟨rfl, rfl⟩ := hm
    refine (take_yes W q 0 bm y ys hq).mono ?_
    rintro e W' ⟨rfl, hq', ht, -⟩
    exact ⟨rfl, ext_foot hE ht hf, bm, ys, hq', rfl, fun k hk => hf k (foot_cons hk)⟩
end Go.Proofs.Ytkpdhciomfanoaa
