/-
  No cell of these rows narrows 'for every input' (looked for: loops, veiled, ifaces, maps, wideKeys, modest, calm, conditions, laid).
  DERIVED. THE GIVEN ROWS OF THIS SEAT. 5 by the template 'for every input the law returns true; each argument reads behind the call as it read before'; 0 by the template 'total and deterministic' (their statements: YtlkhpfchcapgiaaTotals.lean).
  GIVEN WITH THE SEED: the statements are not yours to turn. If you find one false, say at which input.
  Laid BY PROGRAM, IN A SANDBOX (cutbox-rows.mjs): the forced cells as the released guide's own fill.sh prints them over the translation ef8776df98d07ce6… (all of the seat's roots in one cut). By AI agents, Wed Nov 11 2026. No macro, syntax, notation, axiom, sorry.
-/
import Derived.Test.YtlkhpfchcapgiaaChecked
import GoSem.Claim
import GoSem.ClaimJoined
import GoSem.ClaimMapViews
import Derived.JoinedTies
import Derived.KernelRfl
namespace Go.Proofs.Ytlkhpfchcapgiaa
/- THE CELL 'sum', in the pinned program and in every row, IS THE sha256 OF THE DUMP (.gsa) THAT YtlkhpfchcapgiaaProg.lean LOADS. Nothing in Lean hashes anything: it is a label: what it is worth is what the hold of that sum in a sandbox is worth. -/
noncomputable def Try.pinned : Pinned := { name := "ytlkhpfchcapgiaa", sum := "ef8776df98d07ce60c8e12f8cd9f5eb0fb2520d9882fa1b4ae9bfe6c58be95a9", checked := Try.checked }
namespace Rows
def none {H : Type} : Left H := { results := [], args := [] }

/-- 'foliotlaw22.PolicyNumbers': WHATEVER THE INPUT: true; the input reads as it did. -/
def policyNumbersSpec : ChangeSpec := { name := "policyNumbers", fn := fun _ => fun
  | [d] => { results := [.lit (.bool true)], args := [d] }
  | _ => none }
def policyNumbersRow : OpenClaim := { program := "ytlkhpfchcapgiaa", sum := "ef8776df98d07ce60c8e12f8cd9f5eb0fb2520d9882fa1b4ae9bfe6c58be95a9", func := "foliot/foliotlaw22.PolicyNumbers", spec := "policyNumbers", apart := false }
def PolicyNumbersSaid : Prop := policyNumbersRow.holds Try.pinned (OpenSpec.ofChange policyNumbersSpec)

/-- ITS FALSE NEIGHBOUR: 'it returns false'. Refute it at one input. -/
def policyNumbersWrong : ChangeSpec := { name := "policyNumbers", fn := fun _ => fun
  | [d] => { results := [.lit (.bool false)], args := [d] }
  | _ => none }
def PolicyNumbersWrongFalsely : Prop := policyNumbersRow.holds Try.pinned (OpenSpec.ofChange policyNumbersWrong)

/-- 'foliotlaw22.PolicyOf': WHATEVER THE INPUT: true; the input reads as it did. -/
def policyOfSpec : ChangeSpec := { name := "policyOf", fn := fun _ => fun
  | [d] => { results := [.lit (.bool true)], args := [d] }
  | _ => none }
def policyOfRow : OpenClaim := { program := "ytlkhpfchcapgiaa", sum := "ef8776df98d07ce60c8e12f8cd9f5eb0fb2520d9882fa1b4ae9bfe6c58be95a9", func := "foliot/foliotlaw22.PolicyOf", spec := "policyOf", apart := false }
def PolicyOfSaid : Prop := policyOfRow.holds Try.pinned (OpenSpec.ofChange policyOfSpec)

/-- ITS FALSE NEIGHBOUR: 'it returns false'. Refute it at one input. -/
def policyOfWrong : ChangeSpec := { name := "policyOf", fn := fun _ => fun
  | [d] => { results := [.lit (.bool false)], args := [d] }
  | _ => none }
def PolicyOfWrongFalsely : Prop := policyOfRow.holds Try.pinned (OpenSpec.ofChange policyOfWrong)

/-- 'foliotlaw22.PolicyWaits': WHATEVER THE INPUT: true; the input reads as it did. -/
def policyWaitsSpec : ChangeSpec := { name := "policyWaits", fn := fun _ => fun
  | [d1, d2] => { results := [.lit (.bool true)], args := [d1, d2] }
  | _ => none }
def policyWaitsRow : OpenClaim := { program := "ytlkhpfchcapgiaa", sum := "ef8776df98d07ce60c8e12f8cd9f5eb0fb2520d9882fa1b4ae9bfe6c58be95a9", func := "foliot/foliotlaw22.PolicyWaits", spec := "policyWaits", apart := false }
def PolicyWaitsSaid : Prop := policyWaitsRow.holds Try.pinned (OpenSpec.ofChange policyWaitsSpec)

/-- ITS FALSE NEIGHBOUR: 'it returns false'. Refute it at one input. -/
def policyWaitsWrong : ChangeSpec := { name := "policyWaits", fn := fun _ => fun
  | [d1, d2] => { results := [.lit (.bool false)], args := [d1, d2] }
  | _ => none }
def PolicyWaitsWrongFalsely : Prop := policyWaitsRow.holds Try.pinned (OpenSpec.ofChange policyWaitsWrong)

/-- 'foliotlaw22.PolicyGrows': WHATEVER THE INPUT: true; the input reads as it did. -/
def policyGrowsSpec : ChangeSpec := { name := "policyGrows", fn := fun _ => fun
  | [d] => { results := [.lit (.bool true)], args := [d] }
  | _ => none }
def policyGrowsRow : OpenClaim := { program := "ytlkhpfchcapgiaa", sum := "ef8776df98d07ce60c8e12f8cd9f5eb0fb2520d9882fa1b4ae9bfe6c58be95a9", func := "foliot/foliotlaw22.PolicyGrows", spec := "policyGrows", apart := false }
def PolicyGrowsSaid : Prop := policyGrowsRow.holds Try.pinned (OpenSpec.ofChange policyGrowsSpec)

/-- ITS FALSE NEIGHBOUR: 'it returns false'. Refute it at one input. -/
def policyGrowsWrong : ChangeSpec := { name := "policyGrows", fn := fun _ => fun
  | [d] => { results := [.lit (.bool false)], args := [d] }
  | _ => none }
def PolicyGrowsWrongFalsely : Prop := policyGrowsRow.holds Try.pinned (OpenSpec.ofChange policyGrowsWrong)

/-- 'foliotlaw22.PolicyTicks': WHATEVER THE INPUT: true; the input reads as it did. -/
def policyTicksSpec : ChangeSpec := { name := "policyTicks", fn := fun _ => fun
  | [d1, d2, d3] => { results := [.lit (.bool true)], args := [d1, d2, d3] }
  | _ => none }
def policyTicksRow : OpenClaim := { program := "ytlkhpfchcapgiaa", sum := "ef8776df98d07ce60c8e12f8cd9f5eb0fb2520d9882fa1b4ae9bfe6c58be95a9", func := "foliot/foliotlaw22.PolicyTicks", spec := "policyTicks", apart := false }
def PolicyTicksSaid : Prop := policyTicksRow.holds Try.pinned (OpenSpec.ofChange policyTicksSpec)

/-- ITS FALSE NEIGHBOUR: 'it returns false'. Refute it at one input. -/
def policyTicksWrong : ChangeSpec := { name := "policyTicks", fn := fun _ => fun
  | [d1, d2, d3] => { results := [.lit (.bool false)], args := [d1, d2, d3] }
  | _ => none }
def PolicyTicksWrongFalsely : Prop := policyTicksRow.holds Try.pinned (OpenSpec.ofChange policyTicksWrong)

/- THE SECOND FORM. 'bulk': how many values and letters a reading holds, each counted each time it is reached (what is shared counts as often as it is met; a slice's spare places count too). A statement '..UptoSaid' is the law's where the arguments, and the package variables that the reading takes, are together of bulk at most 1048576: NARROWER than '..Said'. Prove '..Said' where nothing that the law and all that it calls make is longer than what came in: it says more and counts as full. Else prove '..UptoSaid'. A law counts once. -/
mutual
def uptoBulk {H : Type} : DataW H → Nat
  | .lit (.string bytes) => bytes.length + 1
  | .lit _ => 1
  | .nil => 1
  | .ptr d => uptoBulk d + 1
  | .slice elems spare => uptoBulkAll elems + uptoBulkAll spare + 1
  | .agg parts => uptoBulkAll parts + 1
  | .iface _ d => uptoBulk d + 1
  | .map entries => uptoBulkEntries entries + 1
  | .held _ => 1
def uptoBulkAll {H : Type} : List (DataW H) → Nat
  | [] => 0
  | d :: r => uptoBulk d + uptoBulkAll r
def uptoBulkEntries {H : Type} : List (Lit × DataW H) → Nat
  | [] => 0
  | x :: r => uptoBulkEntry x + uptoBulkEntries r
def uptoBulkEntry {H : Type} : Lit × DataW H → Nat
  | (.string bytes, d) => bytes.length + uptoBulk d + 1
  | (_, d) => uptoBulk d + 1
 end
def uptoSmall : (H : Type) → List (DataW H) → Bool := fun _ ds => decide (uptoBulkAll ds ≤ 1048576)
def OpenSpec.upto (s : _root_.Go.ChangeSpec) : _root_.Go.OpenSpec := { _root_.Go.OpenSpec.ofChange s with cond := some uptoSmall }

/-- 'foliotlaw22.PolicyNumbers', WHERE WHAT IT READS IS OF BULK AT MOST 1048576: true; the input reads as it did. -/
def policyNumbersUptoRow : OpenClaim := { program := "ytlkhpfchcapgiaa", sum := "ef8776df98d07ce60c8e12f8cd9f5eb0fb2520d9882fa1b4ae9bfe6c58be95a9", func := "foliot/foliotlaw22.PolicyNumbers", spec := "policyNumbers", apart := false, narrowed := true }
def PolicyNumbersUptoSaid : Prop := policyNumbersUptoRow.holds Try.pinned (OpenSpec.upto policyNumbersSpec)

/-- 'foliotlaw22.PolicyOf', WHERE WHAT IT READS IS OF BULK AT MOST 1048576: true; the input reads as it did. -/
def policyOfUptoRow : OpenClaim := { program := "ytlkhpfchcapgiaa", sum := "ef8776df98d07ce60c8e12f8cd9f5eb0fb2520d9882fa1b4ae9bfe6c58be95a9", func := "foliot/foliotlaw22.PolicyOf", spec := "policyOf", apart := false, narrowed := true }
def PolicyOfUptoSaid : Prop := policyOfUptoRow.holds Try.pinned (OpenSpec.upto policyOfSpec)

/-- 'foliotlaw22.PolicyWaits', WHERE WHAT IT READS IS OF BULK AT MOST 1048576: true; the input reads as it did. -/
def policyWaitsUptoRow : OpenClaim := { program := "ytlkhpfchcapgiaa", sum := "ef8776df98d07ce60c8e12f8cd9f5eb0fb2520d9882fa1b4ae9bfe6c58be95a9", func := "foliot/foliotlaw22.PolicyWaits", spec := "policyWaits", apart := false, narrowed := true }
def PolicyWaitsUptoSaid : Prop := policyWaitsUptoRow.holds Try.pinned (OpenSpec.upto policyWaitsSpec)

/-- 'foliotlaw22.PolicyGrows', WHERE WHAT IT READS IS OF BULK AT MOST 1048576: true; the input reads as it did. -/
def policyGrowsUptoRow : OpenClaim := { program := "ytlkhpfchcapgiaa", sum := "ef8776df98d07ce60c8e12f8cd9f5eb0fb2520d9882fa1b4ae9bfe6c58be95a9", func := "foliot/foliotlaw22.PolicyGrows", spec := "policyGrows", apart := false, narrowed := true }
def PolicyGrowsUptoSaid : Prop := policyGrowsUptoRow.holds Try.pinned (OpenSpec.upto policyGrowsSpec)

/-- 'foliotlaw22.PolicyTicks', WHERE WHAT IT READS IS OF BULK AT MOST 1048576: true; the input reads as it did. -/
def policyTicksUptoRow : OpenClaim := { program := "ytlkhpfchcapgiaa", sum := "ef8776df98d07ce60c8e12f8cd9f5eb0fb2520d9882fa1b4ae9bfe6c58be95a9", func := "foliot/foliotlaw22.PolicyTicks", spec := "policyTicks", apart := false, narrowed := true }
def PolicyTicksUptoSaid : Prop := policyTicksUptoRow.holds Try.pinned (OpenSpec.upto policyTicksSpec)

end Rows
end Go.Proofs.Ytlkhpfchcapgiaa
