/- A slice of notes that came in. -/
import Derived.Test.YtjcioelolpmokaaWNoted
import Derived.OpenShut
namespace Go.Proofs.Ytjcioelolpmokaa
set_option maxRecDepth 4000
set_option linter.unusedVariables false
set_option linter.unusedSimpArgs false
open Go Go.RowKit Go.ChangeShapes Go.WideShapes Go.Deep
section
variable {H : Type} {enc : TypeId × Value → H} {w : World} {base : Nat} {spare : Nat → Bool} {held : Bool}
theorem open_note {fuel : Nat} {cs : List Value} {x : DataW H × List MemPlace} (h : DataW.trod enc Try.prog w base spare held fuel 35 cs = some x) : ∃ t : Nt, cs = t.cells ∧ t.Ok := by
  obtain ⟨xs, n, _, _, hl, hxl, hf⟩ := DataW.trod_struct Try.underlying35 h
  have hc : Try.prog.cellsOf 35 = 4 := by kernel_rfl
  rw [hc] at hl
  have hx : xs.length = 4 := hxl
  have gx : ∀ i, i < 4 → ∃ y, xs[i]? = some y := fun i hi => ⟨xs[i]'(by omega), List.getElem?_eq_getElem (by omega)⟩
  have c3 : Try.prog.cellsOf 3 = 1 := by kernel_rfl
  have c27 : Try.prog.cellsOf 27 = 1 := by kernel_rfl
  have c4 : Try.prog.cellsOf 4 = 1 := by kernel_rfl
  have h0 : DataW.trod enc Try.prog w base spare held n 27 ((cs.drop 0).take (Try.prog.cellsOf 27)) = xs[0]? := hf 0 _ rfl
  have h1 : DataW.trod enc Try.prog w base spare held n 3 ((cs.drop 1).take (Try.prog.cellsOf 3)) = xs[1]? := hf 1 _ rfl
  have h2 : DataW.trod enc Try.prog w base spare held n 3 ((cs.drop 2).take (Try.prog.cellsOf 3)) = xs[2]? := hf 2 _ rfl
  have h3 : DataW.trod enc Try.prog w base spare held n 4 ((cs.drop 3).take (Try.prog.cellsOf 4)) = xs[3]? := hf 3 _ rfl
  obtain ⟨y0, e0⟩ := gx 0 (by omega)
  obtain ⟨y1, e1⟩ := gx 1 (by omega)
  obtain ⟨y2, e2⟩ := gx 2 (by omega)
  obtain ⟨y3, e3⟩ := gx 3 (by omega)
  rw [e0, c27, one_of (i := 0) (by omega)] at h0
  rw [e1, c3, one_of (i := 1) (by omega)] at h1
  rw [e2, c3, one_of (i := 2) (by omega)] at h2
  rw [e3, c4, one_of (i := 3) (by omega)] at h3
  obtain ⟨a, k0, w0⟩ := int_of Try.underlying27 h0
  obtain ⟨b, k1, w1⟩ := int_of Try.underlying3 h1
  obtain ⟨c, k2, w2⟩ := int_of Try.underlying3 h2
  obtain ⟨d, k3, _⟩ := DataW.trod_bool Try.underlying4 h3
  have hb := bd_u64 w0
  refine ⟨⟨a.toNat, b, c, d⟩, ?_, ⟨by show a.toNat < _; omega, bd_i64 w1, bd_i64 w2⟩⟩
  match cs, hl with
  | [x0, x1, x2, x3], _ =>
    simp at k0 k1 k2 k3
    rw [k0, k1, k2, k3]
    show _ = [Value.int .u64 ((a.toNat : Nat) : Int), _, _, _]
    rw [show ((a.toNat : Nat) : Int) = a by omega]
theorem open_notes {b0 : Nat} {r : Reach} {v : Value} {d : DataW H} {pl : List MemPlace} (hval : Value.okWide Try.prog w r b0 22 v) (h : DataW.Trod enc Try.prog w base spare held 22 v d pl) :
    ∃ p c ts, v = .slice p ts.length c ∧ NtsAt w p ts :=
  open_rows Try.underlying22 (show Try.prog.cellsOf 35 = 4 by kernel_rfl) (by omega) (fun _ => rfl) (fun h => open_note h) hval h
end
end Go.Proofs.Ytjcioelolpmokaa
