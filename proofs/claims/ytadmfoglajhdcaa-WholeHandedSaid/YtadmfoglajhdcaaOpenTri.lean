/- A slice of threes that came in. -/
import Derived.Test.YtadmfoglajhdcaaHLaw
import Derived.OpenShut
namespace Go.Proofs.Ytadmfoglajhdcaa
set_option maxRecDepth 4000
set_option linter.unusedVariables false
set_option linter.unusedSimpArgs false
open Go Go.RowKit Go.ChangeShapes Go.WideShapes Go.Deep
section
variable {H : Type} {enc : TypeId × Value → H} {w : World} {base : Nat} {spare : Nat → Bool} {held : Bool}
theorem open_tri {fuel : Nat} {cs : List Value} {x : DataW H × List MemPlace} (h : DataW.trod enc Try.prog w base spare held fuel 54 cs = some x) : ∃ t : Tri, cs = t.cells ∧ t.Ok := by
  obtain ⟨xs, n, _, _, hl, hxl, hf⟩ := DataW.trod_array Try.underlying54 h
  have hc : Try.prog.cellsOf 54 = 3 := by kernel_rfl
  rw [hc] at hl
  have c3 : Try.prog.cellsOf 3 = 1 := by kernel_rfl
  have gx : ∀ i, i < 3 → ∃ y, xs[i]? = some y := fun i hi => ⟨xs[i]'(by omega), List.getElem?_eq_getElem (by omega)⟩
  have h0 := hf 0 (by omega)
  have h1 := hf 1 (by omega)
  have h2 := hf 2 (by omega)
  obtain ⟨y0, e0⟩ := gx 0 (by omega)
  obtain ⟨y1, e1⟩ := gx 1 (by omega)
  obtain ⟨y2, e2⟩ := gx 2 (by omega)
  rw [e0, c3, one_of (i := 0 * 1) (by omega)] at h0
  rw [e1, c3, one_of (i := 1 * 1) (by omega)] at h1
  rw [e2, c3, one_of (i := 2 * 1) (by omega)] at h2
  obtain ⟨a, k0, w0⟩ := int_of Try.underlying3 h0
  obtain ⟨b, k1, w1⟩ := int_of Try.underlying3 h1
  obtain ⟨c, k2, w2⟩ := int_of Try.underlying3 h2
  refine ⟨⟨a, b, c⟩, ?_, ⟨bd_i64 w0, bd_i64 w1, bd_i64 w2⟩⟩
  match cs, hl with
  | [x0, x1, x2], _ =>
    simp at k0 k1 k2
    rw [k0, k1, k2]; rfl
theorem open_tris {b0 : Nat} {r : Reach} {v : Value} {d : DataW H} {pl : List MemPlace} (hval : Value.okWide Try.prog w r b0 23 v) (h : DataW.Trod enc Try.prog w base spare held 23 v d pl) :
    ∃ p c ts, v = .slice p ts.length c ∧ TrisAt w p ts :=
  open_rows Try.underlying23 (show Try.prog.cellsOf 54 = 3 by kernel_rfl) (by omega) (fun _ => rfl) (fun h => open_tri h) hval h
end
end Go.Proofs.Ytadmfoglajhdcaa
