/- The script of a law about matches, opened: a slice of structs of seven numbers. -/
import Derived.Test.YtfbolgdecdfnaaaMTurn
import Derived.Test.YtfbolgdecdfnaaaOpenR
namespace Go.Proofs.Ytfbolgdecdfnaaa
set_option maxRecDepth 4000
set_option linter.unusedVariables false
set_option linter.unusedSimpArgs false
open Go Go.RowKit Go.ChangeShapes Go.WideShapes Go.Deep
structure Mop where
  op : Int
  run : Int
  kind : Int
  id : Int
  worker : Int
  tok : Int
  ticks : Int
def Mop.cells (o : Mop) : List Value := [.int .i64 o.op, .int .i64 o.run, .int .i64 o.kind, .int .i64 o.id, .int .i64 o.worker, .int .u64 o.tok, .int .i64 o.ticks]
structure Mop.Ok (o : Mop) : Prop where
  op : -9223372036854775808 ≤ o.op ∧ o.op ≤ 9223372036854775807
  key : TaskOk o.run o.kind o.id
  worker : -9223372036854775808 ≤ o.worker ∧ o.worker ≤ 9223372036854775807
  tok : 0 ≤ o.tok ∧ o.tok ≤ 18446744073709551615
  ticks : -9223372036854775808 ≤ o.ticks ∧ o.ticks ≤ 9223372036854775807
abbrev MopsAt (w : World) (p : Option Addr) (os : List Mop) : Prop := RowsAt 7 Mop.cells Mop.Ok w p os
section
variable {H : Type} {enc : TypeId × Value → H} {w : World} {base : Nat} {spare : Nat → Bool} {held : Bool}
theorem open_task {fuel : Nat} {cs : List Value} {x : DataW H × List MemPlace} (h : DataW.trod enc Try.prog w base spare held fuel 42 cs = some x) : ∃ a b c : Int, cs = [.int .i64 a, .int .i64 b, .int .i64 c] ∧ TaskOk a b c := by
  obtain ⟨xs, n, _, _, hl, hxl, hf⟩ := DataW.trod_struct Try.underlying42 h
  have hc : Try.prog.cellsOf 42 = 3 := by kernel_rfl
  rw [hc] at hl
  have hx : xs.length = 3 := hxl
  have gx : ∀ i, i < 3 → ∃ y, xs[i]? = some y := fun i hi => ⟨xs[i]'(by omega), List.getElem?_eq_getElem (by omega)⟩
  have c3 : Try.prog.cellsOf 3 = 1 := by kernel_rfl
  have c2 : Try.prog.cellsOf 2 = 1 := by kernel_rfl
  have h0 : DataW.trod enc Try.prog w base spare held n 3 ((cs.drop 0).take (Try.prog.cellsOf 3)) = xs[0]? := hf 0 _ rfl
  have h1 : DataW.trod enc Try.prog w base spare held n 3 ((cs.drop 1).take (Try.prog.cellsOf 3)) = xs[1]? := hf 1 _ rfl
  have h2 : DataW.trod enc Try.prog w base spare held n 2 ((cs.drop 2).take (Try.prog.cellsOf 2)) = xs[2]? := hf 2 _ rfl
  obtain ⟨y0, e0⟩ := gx 0 (by omega)
  obtain ⟨y1, e1⟩ := gx 1 (by omega)
  obtain ⟨y2, e2⟩ := gx 2 (by omega)
  rw [e0] at h0; rw [e1] at h1; rw [e2] at h2
  rw [c3] at h0 h1
  rw [c2] at h2
  rw [one_of (i := 0) (by omega)] at h0
  rw [one_of (i := 1) (by omega)] at h1
  rw [one_of (i := 2) (by omega)] at h2
  obtain ⟨a, k0, w0⟩ := int_of Try.underlying3 h0
  obtain ⟨b, k1, w1⟩ := int_of Try.underlying3 h1
  obtain ⟨c, k2, w2⟩ := int_of Try.underlying2 h2
  refine ⟨a, b, c, ?_, ⟨(bd_i64 w0).1, (bd_i64 w0).2, (bd_i64 w1).1, (bd_i64 w1).2, (bd_i64 w2).1, (bd_i64 w2).2⟩⟩
  match cs, hl with
  | [x0, x1, x2], _ =>
    simp only [List.getElem_cons_zero, List.getElem_cons_succ] at k0 k1 k2
    rw [k0, k1, k2]
theorem open_mop {fuel : Nat} {cs : List Value} {x : DataW H × List MemPlace} (h : DataW.trod enc Try.prog w base spare held fuel 59 cs = some x) : ∃ o : Mop, cs = o.cells ∧ o.Ok := by
  obtain ⟨xs, n, _, _, hl, hxl, hf⟩ := DataW.trod_struct Try.underlying59 h
  have hc : Try.prog.cellsOf 59 = 7 := by kernel_rfl
  rw [hc] at hl
  have hx : xs.length = 5 := hxl
  have gx : ∀ i, i < 5 → ∃ y, xs[i]? = some y := fun i hi => ⟨xs[i]'(by omega), List.getElem?_eq_getElem (by omega)⟩
  have c3 : Try.prog.cellsOf 3 = 1 := by kernel_rfl
  have c2 : Try.prog.cellsOf 26 = 1 := by kernel_rfl
  have ct : Try.prog.cellsOf 42 = 3 := by kernel_rfl
  have h0 : DataW.trod enc Try.prog w base spare held n 3 ((cs.drop 0).take (Try.prog.cellsOf 3)) = xs[0]? := hf 0 _ rfl
  have h1 : DataW.trod enc Try.prog w base spare held n 42 ((cs.drop 1).take (Try.prog.cellsOf 42)) = xs[1]? := hf 1 _ rfl
  have h2 : DataW.trod enc Try.prog w base spare held n 3 ((cs.drop 4).take (Try.prog.cellsOf 3)) = xs[2]? := hf 2 _ rfl
  have h3 : DataW.trod enc Try.prog w base spare held n 26 ((cs.drop 5).take (Try.prog.cellsOf 26)) = xs[3]? := hf 3 _ rfl
  have h4 : DataW.trod enc Try.prog w base spare held n 3 ((cs.drop 6).take (Try.prog.cellsOf 3)) = xs[4]? := hf 4 _ rfl
  obtain ⟨y0, e0⟩ := gx 0 (by omega)
  obtain ⟨y1, e1⟩ := gx 1 (by omega)
  obtain ⟨y2, e2⟩ := gx 2 (by omega)
  obtain ⟨y3, e3⟩ := gx 3 (by omega)
  obtain ⟨y4, e4⟩ := gx 4 (by omega)
  rw [e0] at h0; rw [e1] at h1; rw [e2] at h2; rw [e3] at h3; rw [e4] at h4
  rw [c3] at h0 h2 h4
  rw [ct] at h1
  rw [c2] at h3
  rw [one_of (i := 0) (by omega)] at h0
  rw [one_of (i := 4) (by omega)] at h2
  rw [one_of (i := 5) (by omega)] at h3
  rw [one_of (i := 6) (by omega)] at h4
  obtain ⟨a, k0, w0⟩ := int_of Try.underlying3 h0
  obtain ⟨r, k, i, k1, w1⟩ := open_task h1
  obtain ⟨c, k2, w2⟩ := int_of Try.underlying3 h2
  obtain ⟨d, k3, w3⟩ := int_of Try.underlying26 h3
  obtain ⟨e, k4, w4⟩ := int_of Try.underlying3 h4
  refine ⟨⟨a, r, k, i, c, d, e⟩, ?_, ⟨bd_i64 w0, w1, bd_i64 w2, bd_u64 w3, bd_i64 w4⟩⟩
  match cs, hl with
  | [x0, x1, x2, x3, x4, x5, x6], _ =>
    simp only [List.getElem_cons_zero, List.getElem_cons_succ, List.drop_succ_cons, List.drop_zero, List.take_succ_cons, List.take_zero] at k0 k1 k2 k3 k4
    injection k1 with k1 k1'
    injection k1' with k1' k1''
    injection k1'' with k1'' _
    rw [k0, k1, k1', k1'', k2, k3, k4]
    rfl
theorem open_mops {b0 : Nat} {r : Reach} {v : Value} {d : DataW H} {pl : List MemPlace} (hval : Value.okWide Try.prog w r b0 57 v) (h : DataW.Trod enc Try.prog w base spare held 57 v d pl) :
    ∃ p c os, v = .slice p os.length c ∧ MopsAt w p os :=
  open_rows (n := 7) (cells := Mop.cells) (Ok := Mop.Ok) Try.underlying57 (by kernel_rfl) (by omega) (fun _ => rfl) (fun h => open_mop h) hval h
end
end Go.Proofs.Ytfbolgdecdfnaaa
