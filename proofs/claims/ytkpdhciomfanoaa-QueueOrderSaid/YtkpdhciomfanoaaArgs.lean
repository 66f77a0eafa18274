/- DERIVED LEMMAS, OF NO PROGRAM: slices of numbers that came in, and rows of numbers of the call's own, cell by cell. -/
import Derived.Test.YtkpdhciomfanoaaCom
import Derived.ChangeSlices
import Derived.ChangeShapes
import Derived.WideShapes
import Derived.Laws.AppendOwn
namespace Go.Proofs.Ytkpdhciomfanoaa
set_option linter.unusedVariables false
set_option linter.unusedSimpArgs false
open Go Go.RowKit Go.ChangeShapes Go.WideShapes
/-- a slice of numbers that came in: its cells -/
def NumsAt (k : IntKind) (w : World) (p : Option Addr) (zs : List Int) : Prop := ∀ i, i < zs.length → ∃ a, p = some a ∧ a.block < w.heap.size ∧ w.cell? (a.add i) = some (.int k (zs.getD i 0))
theorem NumsAt.get {k : IntKind} {w w' : World} {p : Option Addr} {zs : List Int} (h : NumsAt k w p zs) (hE : Ext w w') (i : Nat) (hi : i < zs.length) : ∃ a, p = some a ∧ w'.cell? (a.add i) = some (.int k (zs.getD i 0)) := by
  obtain ⟨a, rfl, hal, hac⟩ := h i hi
  refine ⟨a, rfl, ?_⟩
  have hab : (a.add i).block = a.block := by unfold Addr.add; first | rfl | (split <;> rfl)
  exact (World.cell?_of_block (w := w) (a := a.add i) (hE.block _ (by rw [hab]; exact hal))).trans hac
theorem NumsAt.ext {k : IntKind} {w w' : World} {p : Option Addr} {zs : List Int} (h : NumsAt k w p zs) (hE : Ext w w') : NumsAt k w' p zs := by
  intro i hi
  obtain ⟨a, rfl, hal, hac⟩ := h i hi
  have hab : (a.add i).block = a.block := by unfold Addr.add; first | rfl | (split <;> rfl)
  exact ⟨a, rfl, Nat.lt_of_lt_of_le hal hE.le, (World.cell?_of_block (w := w) (a := a.add i) (hE.block _ (by rw [hab]; exact hal))).trans hac⟩
def Wfs (k : IntKind) (zs : List Int) : Prop := ∀ n ∈ zs, (Lit.int k n).wf = true
theorem open_nums {H : Type} {enc : TypeId × Value → H} {P : Program} {w : World} {base b0 : Nat} {spare : Nat → Bool} {held : Bool} {r : Reach} {t e : TypeId} {k : IntKind} {v : Value} {d : DataW H} {ps : List MemPlace} (ht : P.underlying t = some (.slice e)) (he : P.underlying e = some (.int k)) (hc : P.cellsOf e = 1)
    (hval : Value.okWide P w r b0 t v) (h : DataW.Trod enc P w base spare held t v d ps) : ∃ p c zs, v = .slice p zs.length c ∧ NumsAt k w p zs ∧ Wfs k zs ∧ zs.length ≤ maxLen := by
  obtain ⟨a0, len, cap, rfl⟩ := okWide_slice ht hval
  obtain ⟨fuel, hf⟩ := h
  rcases open_ints ht he hc hf with ⟨hcs, hx⟩ | ⟨a, len', cap', zs, hcs, _, hl, hm, hz, hx, hcell, hwz⟩
  · simp [Value.cells] at hcs
    obtain ⟨rfl, rfl, rfl⟩ := hcs
    exact ⟨none, 0, [], rfl, fun i hi => absurd hi (by simp), fun n hn => absurd hn (by simp), by simp⟩
  · simp [Value.cells] at hcs
    obtain ⟨rfl, rfl, rfl⟩ := hcs
    have hlz : len ≤ zs.length := by rw [hz]; split <;> omega
    have htl : (zs.take len).length = len := by simp; omega
    refine ⟨some a, cap, zs.take len, by rw [htl], fun i hi => ?_, fun n hn => hwz n (List.mem_of_mem_take hn), by omega⟩
    rw [htl] at hi
    have h1 := hcell i (by omega)
    have hb : (a.add i).block = a.block := by unfold Addr.add; first | rfl | (split <;> rfl)
    refine ⟨a, rfl, hb ▸ World.block_lt_of_cell? w _ h1, ?_⟩
    rw [h1]
    congr 2
    rw [List.getD_eq_getElem?_getD, List.getD_eq_getElem?_getD, List.getElem?_take, if_pos hi]
theorem wf_bd64 {zs : List Int} (h : Wfs .i64 zs) : ∀ z ∈ zs, -9223372036854775808 ≤ z ∧ z ≤ 9223372036854775807 := by
  intro z hz
  have := h z hz
  simp [Lit.wf, IntKind.min, IntKind.max, IntKind.signed, IntKind.bits] at this
  omega
end Go.Proofs.Ytkpdhciomfanoaa
