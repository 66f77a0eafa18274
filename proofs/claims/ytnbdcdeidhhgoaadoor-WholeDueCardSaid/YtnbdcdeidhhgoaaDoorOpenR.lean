/- DERIVED LEMMAS, OF NO PROGRAM: slices of structs that came in, row by row. -/
import Derived.Test.YtnbdcdeidhhgoaaDoorArgs
import Derived.ChangeArms
import Derived.OpenShut
import Derived.Deep.Slices
namespace Go.Proofs.YtnbdcdeidhhgoaaDoor
set_option maxRecDepth 4000
set_option linter.unusedVariables false
set_option linter.unusedSimpArgs false
open Go Go.RowKit Go.ChangeShapes Go.WideShapes Go.Deep
theorem one_of {l : List Value} {i : Nat} (h : i < l.length) : (l.drop i).take 1 = [l[i]] := by
  rw [List.drop_eq_getElem_cons h]; rfl
/-- a slice of rows of n cells that came in -/
def RowsAt {α : Type} (n : Nat) (cells : α → List Value) (Ok : α → Prop) (w : World) (p : Option Addr) (qs : List α) : Prop :=
  ∀ i (h : i < qs.length), ∃ b o, p = some ⟨b, o, none⟩ ∧ b < w.heap.size ∧ (∀ j, j < n → w.cell? ⟨b, o + (i * n + j), none⟩ = (cells qs[i])[j]?) ∧ Ok qs[i]
section
variable {H : Type} {enc : TypeId × Value → H} {P : Program} {w : World} {base : Nat} {spare : Nat → Bool} {held : Bool}
theorem int_of {k : IntKind} {t : TypeId} {fuel : Nat} {v : Value} {x : DataW H × List MemPlace} (ht : P.underlying t = some (.int k)) (h : DataW.trod enc P w base spare held fuel t [v] = some x) : ∃ m, v = .int k m ∧ (Lit.int k m).wf = true := by
  obtain ⟨m, h1, _, h3⟩ := DataW.trod_int ht h
  injection h1 with h1
  exact ⟨m, h1, h3⟩
theorem open_rows {α : Type} {cells : α → List Value} {Ok : α → Prop} {t e : TypeId} {n b0 : Nat} {r : Reach} {v : Value} {d : DataW H} {pl : List MemPlace} (ht : P.underlying t = some (.slice e)) (hc : P.cellsOf e = n) (hn : 0 < n) (hlen : ∀ q, (cells q).length = n)
    (hel : ∀ {fuel : Nat} {cs : List Value} {x : DataW H × List MemPlace}, DataW.trod enc P w base spare held fuel e cs = some x → ∃ q : α, cs = cells q ∧ Ok q)
    (hval : Value.okWide P w r b0 t v) (h : DataW.Trod enc P w base spare held t v d pl) :
    ∃ p c qs, v = .slice p qs.length c ∧ RowsAt n cells Ok w p qs := by
  obtain ⟨a0, len, cap, rfl⟩ := okWide_slice ht hval
  obtain ⟨fuel, hf⟩ := h
  rcases open_slice ht hf with ⟨hcs, hx⟩ | ⟨a, len', cap', m, k, D, Pl, hcs, hb, hl, hm, hmm, hx, he⟩
  · simp [Value.cells] at hcs
    obtain ⟨rfl, rfl, rfl⟩ := hcs
    exact ⟨none, 0, [], rfl, fun i hi => absurd hi (by simp)⟩
  · simp [Value.cells] at hcs
    obtain ⟨rfl, rfl, rfl⟩ := hcs
    have hlm : len ≤ m := by rw [hmm]; split <;> omega
    rw [hc] at he
    have key : ∀ i, i < len → ∃ q : α, (∀ j, j < n → w.cell? (a.add (i * n + j)) = (cells q)[j]?) ∧ Ok q := by
      intro i hi
      obtain ⟨cs', h1, h2⟩ := he i (by omega)
      obtain ⟨q, rfl, hq⟩ := hel h2
      obtain ⟨_, hcl, hat⟩ := World.cells?_some h1
      exact ⟨q, fun j hj => by rw [← Go.Deep.add_add]; exact hat j hj, hq⟩
    have : ∀ k, k ≤ len → ∃ ps : List α, ps.length = k ∧ ∀ i (h : i < ps.length), (∀ j, j < n → w.cell? (a.add (i * n + j)) = (cells ps[i])[j]?) ∧ Ok ps[i] := by
      intro k
      induction k with
      | zero => exact fun _ => ⟨[], rfl, fun i hi => absurd hi (by simp)⟩
      | succ k ih =>
        intro hk
        obtain ⟨ps, h1, h2⟩ := ih (by omega)
        obtain ⟨q, h3, h4⟩ := key k (by omega)
        refine ⟨ps ++ [q], by simp [h1], fun i hi => ?_⟩
        rcases Nat.lt_or_ge i ps.length with h | h
        · rw [List.getElem_append_left h]; exact h2 i h
        · have hik : i = k := by simp at hi; omega
          subst hik
          rw [List.getElem_append_right (by omega)]
          simp only [h1, Nat.sub_self, List.getElem_cons_zero]
          exact ⟨h3, h4⟩
    obtain ⟨ps, h1, h2⟩ := this len (Nat.le_refl _)
    refine ⟨some a, cap, ps, by rw [h1], fun i hi => ?_⟩
    obtain ⟨h3, h4⟩ := h2 i hi
    obtain ⟨b, o, sp⟩ := a
    have hi0 : ∀ i (h : i < ps.length), (cells ps[i])[0]? = some ((cells ps[i])[0]'(by rw [hlen]; exact hn)) := fun i h => List.getElem?_eq_getElem _
    have hc0 := h3 0 hn
    rw [hi0 i hi] at hc0
    have hsp : sp = none := by
      have h5 := (h2 0 (by omega)).1 0 hn
      rw [hi0 0 (by omega)] at h5
      simpa [Addr.add] using World.cell?_spot h5
    subst hsp
    refine ⟨b, o, rfl, ?_, fun j hj => by rw [← Go.WideShapes.add_plain]; exact h3 j hj, h4⟩
    have := World.block_lt_of_cell? w _ hc0
    rw [Go.WideShapes.add_plain] at this
    exact this
end
end Go.Proofs.YtnbdcdeidhhgoaaDoor
