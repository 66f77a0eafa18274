/- Chain: the sums of a chain of texts. -/
import Derived.Test.YtkkhcpknldlpoaaSLink
import Derived.Test.YtkkhcpknldlpoaaChains
namespace Go.Proofs.Ytkkhcpknldlpoaa
set_option maxRecDepth 4000
set_option linter.unusedVariables false
set_option linter.unusedSimpArgs false
open Go Go.RowKit
theorem sumInfo' : (Try.prog.info? 66).map (fun i => (i.zero, i.size, i.bytes)) = some (some (smV (zb 32)), 32, 32) := by kernel_rfl
theorem fold_build (l : List Value) : ∀ (pre suf : List Value), suf.length = l.length → (l.zipIdx pre.length).foldl (fun (cs : Array Value) (x : Value × Nat) => cs.setIfInBounds x.snd x.fst) (pre ++ suf).toArray = (pre ++ l).toArray := by
  induction l with
  | nil => intro pre suf h; have : suf = [] := List.length_eq_zero_iff.1 h; subst this; rfl
  | cons v l ih =>
    intro pre suf h
    cases suf with
    | nil => simp at h
    | cons y suf =>
      rw [List.zipIdx_cons, List.foldl_cons]
      have e : (pre ++ y :: suf).toArray.setIfInBounds pre.length v = ((pre ++ [v]) ++ suf).toArray := by
        simp
      show List.foldl _ ((pre ++ y :: suf).toArray.setIfInBounds pre.length v) _ = _
      rw [e]
      have := ih (pre ++ [v]) suf (by simpa using h)
      rw [List.length_append, List.length_singleton] at this
      rw [this]
      simp
theorem build32 {l : List UInt8} (h : l.length = 32) : List.foldl (fun (cs : Array Value) (x : Value × Nat) => cs.setIfInBounds x.snd x.fst) #[Value.int IntKind.u8 0, Value.int IntKind.u8 0, Value.int IntKind.u8 0, Value.int IntKind.u8 0, Value.int IntKind.u8 0, Value.int IntKind.u8 0, Value.int IntKind.u8 0, Value.int IntKind.u8 0, Value.int IntKind.u8 0, Value.int IntKind.u8 0, Value.int IntKind.u8 0, Value.int IntKind.u8 0, Value.int IntKind.u8 0, Value.int IntKind.u8 0, Value.int IntKind.u8 0, Value.int IntKind.u8 0, Value.int IntKind.u8 0, Value.int IntKind.u8 0, Value.int IntKind.u8 0, Value.int IntKind.u8 0, Value.int IntKind.u8 0, Value.int IntKind.u8 0, Value.int IntKind.u8 0, Value.int IntKind.u8 0, Value.int IntKind.u8 0, Value.int IntKind.u8 0, Value.int IntKind.u8 0, Value.int IntKind.u8 0, Value.int IntKind.u8 0, Value.int IntKind.u8 0, Value.int IntKind.u8 0, Value.int IntKind.u8 0] (u8s l).zipIdx = (u8s l).toArray := by
  have := fold_build (u8s l) [] (u8s (zb 32)) (by rw [u8s_length, u8s_length, h]; rfl)
  exact this
def ChRel (w : World) (bx : Nat) (first : List UInt8) (ps : List (List UInt8)) (out k : Value) (wr : World) : Prop :=
  ∃ i : Nat, i ≤ ps.length ∧ k = .int .i64 i ∧ Has w wr [SmA bx (chainEnd first (ps.take i)), rowA 66 32 out i (u8s (chain first (ps.take i)).flatten)]
theorem NumsAt.ext' {k : IntKind} {w w' : World} {p : Option Addr} {zs : List Int} (h : NumsAt k w p zs) (hE : Ext w w') : NumsAt k w' p zs := h.ext hE
end Go.Proofs.Ytkkhcpknldlpoaa
