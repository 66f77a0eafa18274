/- DERIVED LEMMAS, OF NO PROGRAM: bytes that came in, read as a text. -/
import Derived.Test.YtnbdcdeidhhgoaaDoorBytes
import Derived.Laws.Concat
namespace Go.Proofs.YtnbdcdeidhhgoaaDoor
set_option maxRecDepth 4000
set_option linter.unusedVariables false
set_option linter.unusedSimpArgs false
open Go Go.RowKit Go.ChangeShapes Go.WideShapes
theorem conv_arg {P : Program} {t e st : TypeId} (ht : P.underlying t = some (.slice e)) (he : P.underlying e = some (.int .u8)) (hs : P.underlying st = some .string) {w : World} {p : Option Addr} {c : Nat} {l : List UInt8} (h : NumsAt .u8 w p (byI l)) (hp : p = none → l.length = 0 ∧ c = 0) :
    (convert t st (.slice p l.length c)).run P w = .ok (.string (strOf l)) w := by
  cases p with
  | none =>
    obtain ⟨h1, rfl⟩ := hp rfl
    have hl : l = [] := List.eq_nil_of_length_eq_zero h1
    subst hl
    exact run_convert_bytes_nil (P := P) w t e ht he 0 0 st hs
  | some a =>
    cases l with
    | nil =>
      show (convert t st (.slice (some a) 0 c)).run P w = .ok (.string (strOf [])) w
      rw [run_convert_bytes_string w t st e _ 0 c ht he hs, run_bytesToString w a 0 c [] (by simp [loadCells, loadCellsFrom])]
      rfl
    | cons x l =>
      obtain ⟨a', ha, _, hc⟩ := h 0 (by simp [byI])
      injection ha with ha
      subst ha
      obtain ⟨g, o, sp⟩ := a
      have hsp : sp = none := by simpa [Addr.add] using World.cell?_spot hc
      subst hsp
      refine conv_str ht he hs w g o c (x :: l) fun i hi => ?_
      obtain ⟨a', ha, _, hc⟩ := h i (by rw [byI_length]; exact hi)
      injection ha with ha
      subst ha
      rw [Go.WideShapes.add_plain] at hc
      rw [hc]
      congr 2
      rw [byI, List.getD_eq_getElem?_getD, List.getD_eq_getElem?_getD, List.getElem?_map, List.getElem?_eq_getElem hi]; rfl
theorem cstrOf_append (a b : List UInt8) : strOf a ++ strOf b = strOf (a ++ b) := by
  unfold strOf
  apply ByteArray.ext
  simp
theorem cstr_add {P : Program} (a b : List UInt8) (h : a.length + b.length ≤ 70368744177664) (X : World) : (Op.stringOp .add (strOf a) (strOf b)).run P X = .ok (.string (strOf (a ++ b))) X := by
  rw [run_string_add_sum X _ _ (by show (strOf a).size + (strOf b).size ≤ _; have e1 : (strOf a).size = a.length := rfl; have e2 : (strOf b).size = b.length := rfl; omega), cstrOf_append]
end Go.Proofs.YtnbdcdeidhhgoaaDoor
