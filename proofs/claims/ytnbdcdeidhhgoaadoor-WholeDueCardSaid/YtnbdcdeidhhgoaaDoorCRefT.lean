/- cron: the document's cuts and splits. -/
import Derived.Test.YtnbdcdeidhhgoaaDoorHOps
import Derived.Test.YtnbdcdeidhhgoaaDoorCCut
import Derived.Test.YtnbdcdeidhhgoaaDoorSep
namespace Go.Proofs.YtnbdcdeidhhgoaaDoor
set_option maxRecDepth 4000
set_option linter.unusedVariables false
set_option linter.unusedSimpArgs false
open Go Go.RowKit
theorem at_sign (s : ByteArray) (i : Nat) (hi : i < s.size) : tl s = (tl s).take i ++ s[i] :: (tl s).drop (i + 1) := by
  have h : i < (tl s).length := by rw [tl_length]; exact hi
  have := List.drop_eq_getElem_cons h
  rw [tl_get s i hi] at this
  rw [← this, List.take_append_drop]
def tRow (v : Value) (l : List (List UInt8)) : Asr := rowA 9 1 v l.length (l.map strV)
theorem tRow_loc (v : Value) (l : List (List UInt8)) : Loc (tRow v l) := rowA_loc _ _ _ _ _
theorem strInfo' : (Tryd.prog.info? 9).map (fun i => (i.zero, i.size, i.bytes)) = some (some (.string ⟨#[]⟩), 1, 16) := by kernel_rfl
theorem extract_mid (s : ByteArray) (j i : Nat) : s.extract j i = strOf (((tl s).drop j).take (i - j)) := by
  rw [← strOf_tl (s.extract j i)]
  congr 1
  simp [tl, ByteArray.data_extract, Array.toList_extract, List.extract_eq_take_drop]
theorem tRow_snoc {done : List (List UInt8)} {x : List UInt8} {W : World} {v : Value} {w : World} {X : ByteArray} (hX : X = strOf x) (h : Has w W [rowA 9 1 v (done.length + 1) (done.map strV ++ [.string X])]) : Has w W [tRow v (done ++ [x])] := by
  unfold tRow
  subst hX
  rw [List.length_append, List.map_append]
  exact h
def SpRel (w : World) (c : UInt8) (t : List UInt8) (v vf vi : Value) (wr : World) : Prop :=
  ∃ (done : List (List UInt8)) (j i : Nat), vf = .int .i64 j ∧ vi = .int .i64 i ∧ j ≤ i ∧ i ≤ t.length ∧ done.length ≤ j ∧ splitL c t = done ++ splitL c (t.drop j) ∧ c ∉ (t.drop j).take (i - j) ∧ Has w wr [tRow v done]
end Go.Proofs.YtnbdcdeidhhgoaaDoor
