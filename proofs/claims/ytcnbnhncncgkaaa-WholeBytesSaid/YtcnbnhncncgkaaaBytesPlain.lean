/- WholeBytes, in plain Lean: the bytes of numbers and texts; what has been read of them; where the cuts lie. -/
import Derived.Test.YtcnbnhncncgkaaaReadBack
import Derived.Test.YtcnbnhncncgkaaaWInt
namespace Go.Proofs.Ytcnbnhncncgkaaa
set_option linter.unusedVariables false
set_option linter.unusedSimpArgs false
open Go
def outN (ns : List Int) : List UInt8 := ns.flatMap fun n => numB (zigN n)
def outT (ts : List (List UInt8)) : List UInt8 := ts.flatMap fun t => numB t.length ++ t
theorem outN_snoc (ns : List Int) (i : Nat) (h : i < ns.length) : outN (ns.take (i + 1)) = outN (ns.take i) ++ numB (zigN ns[i]) := by
  unfold outN; rw [List.take_succ_eq_append_getElem h, List.flatMap_append]; simp
theorem outT_snoc (ts : List (List UInt8)) (i : Nat) (h : i < ts.length) : outT (ts.take (i + 1)) = outT (ts.take i) ++ (numB ts[i].length ++ ts[i]) := by
  unfold outT; rw [List.take_succ_eq_append_getElem h, List.flatMap_append]; simp
theorem outN_at (ns : List Int) (tl : List UInt8) (i : Nat) (h : i < ns.length) : (outN ns ++ tl).drop (outN (ns.take i)).length = numB (zigN ns[i]) ++ (outN (ns.drop (i + 1)) ++ tl) := by
  have e : outN ns = outN (ns.take i) ++ (numB (zigN ns[i]) ++ outN (ns.drop (i + 1))) := by
    conv => lhs; rw [← List.take_append_drop i ns, List.drop_eq_getElem_cons h]
    unfold outN; rw [List.flatMap_append, List.flatMap_cons]
  rw [e, List.append_assoc, List.drop_left', List.append_assoc]; rfl
theorem outT_at (ns : List Int) (ts : List (List UInt8)) (i : Nat) (h : i < ts.length) : (outN ns ++ outT ts).drop ((outN ns).length + (outT (ts.take i)).length) = (numB ts[i].length ++ ts[i]) ++ outT (ts.drop (i + 1)) := by
  have e : outT ts = outT (ts.take i) ++ ((numB ts[i].length ++ ts[i]) ++ outT (ts.drop (i + 1))) := by
    conv => lhs; rw [← List.take_append_drop i ts, List.drop_eq_getElem_cons h]
    unfold outT; rw [List.flatMap_append, List.flatMap_cons]
  rw [← List.drop_drop, List.drop_left' rfl, e, List.drop_left' rfl]
theorem outN_len (ns : List Int) (h : ∀ n ∈ ns, -9223372036854775808 ≤ n ∧ n ≤ 9223372036854775807) : (outN ns).length ≤ 10 * ns.length := by
  induction ns with
  | nil => simp [outN]
  | cons n ns ih =>
    have h1 := ih fun m hm => h m (by simp [hm])
    have h2 : (numB (zigN n)).length ≤ 10 := numB_len (by have := h n (by simp); unfold zigN; split <;> omega)
    unfold outN at *
    rw [List.flatMap_cons, List.length_append, List.length_cons]; omega
theorem outT_len (ts : List (List UInt8)) (h : ∀ t ∈ ts, t.length ≤ 200) : (outT ts).length ≤ 210 * ts.length := by
  induction ts with
  | nil => simp [outT]
  | cons t ts ih =>
    have h1 := ih fun m hm => h m (by simp [hm])
    have h3 := h t (by simp)
    have h2 : (numB t.length).length ≤ 10 := numB_len (by omega)
    unfold outT at *
    rw [List.flatMap_cons, List.length_append, List.length_append, List.length_cons]; omega
end Go.Proofs.Ytcnbnhncncgkaaa
