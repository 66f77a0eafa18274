/- The script of QueuePlays, opened: a slice of structs of five numbers. -/
import Derived.Test.YtkpdhciomfanoaaPlays
import Derived.Test.YtkpdhciomfanoaaOpenR
namespace Go.Proofs.Ytkpdhciomfanoaa
set_option linter.unusedVariables false
set_option linter.unusedSimpArgs false
open Go Go.RowKit Go.ChangeShapes Go.WideShapes Go.Deep
section
variable {H : Type} {enc : TypeId × Value → H} {w : World} {base : Nat} {spare : Nat → Bool} {held : Bool}
theorem open_task {fuel : Nat} {cs : List Value} {x : DataW H × List MemPlace} (h : DataW.trod enc Try.prog w base spare held fuel 32 cs = some x) : ∃ a b c : Int, cs = [.int .i64 a, .int .i64 b, .int .i64 c] ∧ TaskOk a b c := by
  obtain ⟨xs, n, _, _, hl, hxl, hf⟩ := DataW.trod_struct Try.underlying32 h
  have hc : Try.prog.cellsOf 32 = 3 := by kernel_rfl
  rw [hc] at hl
  have hx : xs.length = 3 := hxl
  have gx : ∀ i, i < 3 → ∃ y, xs[i]? = some y := fun i hi => ⟨xs[i]'(by omega), List.getElem?_eq_getElem (by omega)⟩
  have c3 : Try.prog.cellsOf 3 = 1 := by kernel_rfl
  have c2 : Try.prog.cellsOf 2 = 1 := by kernel_rfl
  have h0 : DataW.trod enc Try.prog w base spare held n 3 ((cs.drop 0).take (Try.prog.cellsOf 3)) = xs[0]? := hf 0 _ rfl
  have h1 : DataW.trod enc Try.prog w base spare held n 3 ((cs.drop 1).take (Try.prog.cellsOf 3)) = xs[1]? := hf 1 _ rfl
  have h2 : DataW.trod enc Try.prog w base spare held n 2 ((cs.drop 2).take (Try.prog.cellsOf 2)) = xs[2]? := hf 2 _ rfl
  obtain ⟨y0, e0⟩ := gx 0 (by omega)
  obtain ⟨y1, e1⟩ := gx 1 (by omega)
  obtain ⟨y2, e2⟩ := gx 2 (by omega)
  rw [e0] at h0; rw [e1] at h1; rw [e2] at h2
  rw [c3] at h0 h1
  rw [c2] at h2
  rw [one_of (i := 0) (by omega)] at h0
  rw [one_of (i := 1) (by omega)] at h1
  rw [one_of (i := 2) (by omega)] at h2
  obtain ⟨a, k0, w0⟩ := int_of Try.underlying3 h0
  obtain ⟨b, k1, w1⟩ := int_of Try.underlying3 h1
  obtain ⟨c, k2, w2⟩ := int_of Try.underlying2 h2
  refine ⟨a, b, c, ?_, ⟨(bd_i64 w0).1, (bd_i64 w0).2, (bd_i64 w1).1, (bd_i64 w1).2, (bd_i64 w2).1, (bd_i64 w2).2⟩⟩
  match cs, hl with
  | [x0, x1, x2], _ =>
    simp only [List.getElem_cons_zero, List.getElem_cons_succ] at k0 k1 k2
    rw [k0, k1, k2]
theorem open_op {fuel : Nat} {cs : List Value} {x : DataW H × List MemPlace} (h : DataW.trod enc Try.prog w base spare held fuel 48 cs = some x) : ∃ o : Opn, cs = o.cells ∧ o.Ok := by
  obtain ⟨xs, n, _, _, hl, hxl, hf⟩ := DataW.trod_struct Try.underlying48 h
  have hc : Try.prog.cellsOf 48 = 5 := by kernel_rfl
  rw [hc] at hl
  have hx : xs.length = 3 := hxl
  have gx : ∀ i, i < 3 → ∃ y, xs[i]? = some y := fun i hi => ⟨xs[i]'(by omega), List.getElem?_eq_getElem (by omega)⟩
  have c3 : Try.prog.cellsOf 3 = 1 := by kernel_rfl
  have c2 : Try.prog.cellsOf 2 = 1 := by kernel_rfl
  have ct : Try.prog.cellsOf 32 = 3 := by kernel_rfl
  have h0 : DataW.trod enc Try.prog w base spare held n 3 ((cs.drop 0).take (Try.prog.cellsOf 3)) = xs[0]? := hf 0 _ rfl
  have h1 : DataW.trod enc Try.prog w base spare held n 32 ((cs.drop 1).take (Try.prog.cellsOf 32)) = xs[1]? := hf 1 _ rfl
  have h2 : DataW.trod enc Try.prog w base spare held n 2 ((cs.drop 4).take (Try.prog.cellsOf 2)) = xs[2]? := hf 2 _ rfl
  obtain ⟨y0, e0⟩ := gx 0 (by omega)
  obtain ⟨y1, e1⟩ := gx 1 (by omega)
  obtain ⟨y2, e2⟩ := gx 2 (by omega)
  rw [e0] at h0; rw [e1] at h1; rw [e2] at h2
  rw [c3] at h0
  rw [ct] at h1
  rw [c2] at h2
  rw [one_of (i := 0) (by omega)] at h0
  rw [one_of (i := 4) (by omega)] at h2
  obtain ⟨a, k0, w0⟩ := int_of Try.underlying3 h0
  obtain ⟨r, k, i, k1, w1⟩ := open_task h1
  obtain ⟨c, k2, w2⟩ := int_of Try.underlying2 h2
  refine ⟨⟨a, r, k, i, c⟩, ?_, ⟨bd_i64 w0, w1, bd_i64 w2⟩⟩
  match cs, hl with
  | [x0, x1, x2, x3, x4], _ =>
    simp only [List.getElem_cons_zero, List.getElem_cons_succ, List.drop_succ_cons, List.drop_zero, List.take_succ_cons, List.take_zero] at k0 k1 k2
    injection k1 with k1 k1'
    injection k1' with k1' k1''
    injection k1'' with k1'' _
    rw [k0, k1, k1', k1'', k2]
    rfl
theorem open_ops {b0 : Nat} {r : Reach} {v : Value} {d : DataW H} {pl : List MemPlace} (hval : Value.okWide Try.prog w r b0 45 v) (h : DataW.Trod enc Try.prog w base spare held 45 v d pl) :
    ∃ p c os, v = .slice p os.length c ∧ OpsAt w p os :=
  open_rows (n := 5) (cells := Opn.cells) (Ok := Opn.Ok) Try.underlying45 (by kernel_rfl) (by omega) (fun _ => rfl) (fun h => open_op h) hval h
end
end Go.Proofs.Ytkpdhciomfanoaa
