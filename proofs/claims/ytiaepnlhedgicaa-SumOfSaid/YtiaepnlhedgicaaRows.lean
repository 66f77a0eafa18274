/-
  No cell of these rows narrows 'for every input' (looked for: loops, veiled, ifaces, maps, wideKeys, modest, calm, conditions, laid).
  DERIVED. THE GIVEN ROWS OF THIS SEAT. 7 by the template 'for every input the law returns true; each argument reads behind the call as it read before'; 0 by the template 'total and deterministic' (their statements: YtiaepnlhedgicaaTotals.lean).
  GIVEN WITH THE SEED: the statements are not yours to turn. If you find one false, say at which input.
  Laid BY PROGRAM, IN A SANDBOX (cutbox-rows.mjs): the forced cells as the released guide's own fill.sh prints them over the translation dd5100fd55b0529a… (all of the seat's roots in one cut). By AI agents, Wed Nov 11 2026. No macro, syntax, notation, axiom, sorry.
-/
import Derived.Test.YtiaepnlhedgicaaChecked
import GoSem.Claim
import GoSem.ClaimJoined
import GoSem.ClaimMapViews
import Derived.JoinedTies
import Derived.KernelRfl
namespace Go.Proofs.Ytiaepnlhedgicaa
/- THE CELL 'sum', in the pinned program and in every row, IS THE sha256 OF THE DUMP (.gsa) THAT YtiaepnlhedgicaaProg.lean LOADS. Nothing in Lean hashes anything: it is a label: what it is worth is what the hold of that sum in a sandbox is worth. -/
noncomputable def Try.pinned : Pinned := { name := "ytiaepnlhedgicaa", sum := "dd5100fd55b0529aa0e010b73fb7860f963a1ce8c46751ba1ab700eb892935a5", checked := Try.checked }
namespace Rows
def none {H : Type} : Left H := { results := [], args := [] }

/-- 'foliotlaw01.SumCRC': WHATEVER THE INPUT: true; the input reads as it did. -/
def sumCRCSpec : ChangeSpec := { name := "sumCRC", fn := fun _ => fun
  | [d] => { results := [.lit (.bool true)], args := [d] }
  | _ => none }
def sumCRCRow : OpenClaim := { program := "ytiaepnlhedgicaa", sum := "dd5100fd55b0529aa0e010b73fb7860f963a1ce8c46751ba1ab700eb892935a5", func := "foliot/foliotlaw01.SumCRC", spec := "sumCRC", apart := false }
def SumCRCSaid : Prop := sumCRCRow.holds Try.pinned (OpenSpec.ofChange sumCRCSpec)

/-- ITS FALSE NEIGHBOUR: 'it returns false'. Refute it at one input. -/
def sumCRCWrong : ChangeSpec := { name := "sumCRC", fn := fun _ => fun
  | [d] => { results := [.lit (.bool false)], args := [d] }
  | _ => none }
def SumCRCWrongFalsely : Prop := sumCRCRow.holds Try.pinned (OpenSpec.ofChange sumCRCWrong)

/-- 'foliotlaw01.SumOf': WHATEVER THE INPUT: true; the input reads as it did. -/
def sumOfSpec : ChangeSpec := { name := "sumOf", fn := fun _ => fun
  | [d] => { results := [.lit (.bool true)], args := [d] }
  | _ => none }
def sumOfRow : OpenClaim := { program := "ytiaepnlhedgicaa", sum := "dd5100fd55b0529aa0e010b73fb7860f963a1ce8c46751ba1ab700eb892935a5", func := "foliot/foliotlaw01.SumOf", spec := "sumOf", apart := false }
def SumOfSaid : Prop := sumOfRow.holds Try.pinned (OpenSpec.ofChange sumOfSpec)

/-- ITS FALSE NEIGHBOUR: 'it returns false'. Refute it at one input. -/
def sumOfWrong : ChangeSpec := { name := "sumOf", fn := fun _ => fun
  | [d] => { results := [.lit (.bool false)], args := [d] }
  | _ => none }
def SumOfWrongFalsely : Prop := sumOfRow.holds Try.pinned (OpenSpec.ofChange sumOfWrong)

/-- 'foliotlaw01.SumParts': WHATEVER THE INPUT: true; the input reads as it did. -/
def sumPartsSpec : ChangeSpec := { name := "sumParts", fn := fun _ => fun
  | [d] => { results := [.lit (.bool true)], args := [d] }
  | _ => none }
def sumPartsRow : OpenClaim := { program := "ytiaepnlhedgicaa", sum := "dd5100fd55b0529aa0e010b73fb7860f963a1ce8c46751ba1ab700eb892935a5", func := "foliot/foliotlaw01.SumParts", spec := "sumParts", apart := false }
def SumPartsSaid : Prop := sumPartsRow.holds Try.pinned (OpenSpec.ofChange sumPartsSpec)

/-- ITS FALSE NEIGHBOUR: 'it returns false'. Refute it at one input. -/
def sumPartsWrong : ChangeSpec := { name := "sumParts", fn := fun _ => fun
  | [d] => { results := [.lit (.bool false)], args := [d] }
  | _ => none }
def SumPartsWrongFalsely : Prop := sumPartsRow.holds Try.pinned (OpenSpec.ofChange sumPartsWrong)

/-- 'foliotlaw01.SumGoes': WHATEVER THE INPUT: true; the input reads as it did. -/
def sumGoesSpec : ChangeSpec := { name := "sumGoes", fn := fun _ => fun
  | [d] => { results := [.lit (.bool true)], args := [d] }
  | _ => none }
def sumGoesRow : OpenClaim := { program := "ytiaepnlhedgicaa", sum := "dd5100fd55b0529aa0e010b73fb7860f963a1ce8c46751ba1ab700eb892935a5", func := "foliot/foliotlaw01.SumGoes", spec := "sumGoes", apart := false }
def SumGoesSaid : Prop := sumGoesRow.holds Try.pinned (OpenSpec.ofChange sumGoesSpec)

/-- ITS FALSE NEIGHBOUR: 'it returns false'. Refute it at one input. -/
def sumGoesWrong : ChangeSpec := { name := "sumGoes", fn := fun _ => fun
  | [d] => { results := [.lit (.bool false)], args := [d] }
  | _ => none }
def SumGoesWrongFalsely : Prop := sumGoesRow.holds Try.pinned (OpenSpec.ofChange sumGoesWrong)

/-- 'foliotlaw01.SumChain': WHATEVER THE INPUT: true; the input reads as it did. -/
def sumChainSpec : ChangeSpec := { name := "sumChain", fn := fun _ => fun
  | [d1, d2] => { results := [.lit (.bool true)], args := [d1, d2] }
  | _ => none }
def sumChainRow : OpenClaim := { program := "ytiaepnlhedgicaa", sum := "dd5100fd55b0529aa0e010b73fb7860f963a1ce8c46751ba1ab700eb892935a5", func := "foliot/foliotlaw01.SumChain", spec := "sumChain", apart := false }
def SumChainSaid : Prop := sumChainRow.holds Try.pinned (OpenSpec.ofChange sumChainSpec)

/-- ITS FALSE NEIGHBOUR: 'it returns false'. Refute it at one input. -/
def sumChainWrong : ChangeSpec := { name := "sumChain", fn := fun _ => fun
  | [d1, d2] => { results := [.lit (.bool false)], args := [d1, d2] }
  | _ => none }
def SumChainWrongFalsely : Prop := sumChainRow.holds Try.pinned (OpenSpec.ofChange sumChainWrong)

/-- 'foliotlaw01.SumBit': WHATEVER THE INPUT: true; the input reads as it did. -/
def sumBitSpec : ChangeSpec := { name := "sumBit", fn := fun _ => fun
  | [d1, d2, d3] => { results := [.lit (.bool true)], args := [d1, d2, d3] }
  | _ => none }
def sumBitRow : OpenClaim := { program := "ytiaepnlhedgicaa", sum := "dd5100fd55b0529aa0e010b73fb7860f963a1ce8c46751ba1ab700eb892935a5", func := "foliot/foliotlaw01.SumBit", spec := "sumBit", apart := false }
def SumBitSaid : Prop := sumBitRow.holds Try.pinned (OpenSpec.ofChange sumBitSpec)

/-- ITS FALSE NEIGHBOUR: 'it returns false'. Refute it at one input. -/
def sumBitWrong : ChangeSpec := { name := "sumBit", fn := fun _ => fun
  | [d1, d2, d3] => { results := [.lit (.bool false)], args := [d1, d2, d3] }
  | _ => none }
def SumBitWrongFalsely : Prop := sumBitRow.holds Try.pinned (OpenSpec.ofChange sumBitWrong)

/-- 'foliotlaw01.SumRuns': WHATEVER THE INPUT: true; the input reads as it did. -/
def sumRunsSpec : ChangeSpec := { name := "sumRuns", fn := fun _ => fun
  | [d1, d2] => { results := [.lit (.bool true)], args := [d1, d2] }
  | _ => none }
def sumRunsRow : OpenClaim := { program := "ytiaepnlhedgicaa", sum := "dd5100fd55b0529aa0e010b73fb7860f963a1ce8c46751ba1ab700eb892935a5", func := "foliot/foliotlaw01.SumRuns", spec := "sumRuns", apart := false }
def SumRunsSaid : Prop := sumRunsRow.holds Try.pinned (OpenSpec.ofChange sumRunsSpec)

/-- ITS FALSE NEIGHBOUR: 'it returns false'. Refute it at one input. -/
def sumRunsWrong : ChangeSpec := { name := "sumRuns", fn := fun _ => fun
  | [d1, d2] => { results := [.lit (.bool false)], args := [d1, d2] }
  | _ => none }
def SumRunsWrongFalsely : Prop := sumRunsRow.holds Try.pinned (OpenSpec.ofChange sumRunsWrong)

/- THE SECOND FORM. 'bulk': how many values and letters a reading holds, each counted each time it is reached (what is shared counts as often as it is met; a slice's spare places count too). A statement '..UptoSaid' is the law's where the arguments, and the package variables that the reading takes, are together of bulk at most 1048576: NARROWER than '..Said'. Prove '..Said' where nothing that the law and all that it calls make is longer than what came in: it says more and counts as full. Else prove '..UptoSaid'. A law counts once. -/
mutual
def uptoBulk {H : Type} : DataW H → Nat
  | .lit (.string bytes) => bytes.length + 1
  | .lit _ => 1
  | .nil => 1
  | .ptr d => uptoBulk d + 1
  | .slice elems spare => uptoBulkAll elems + uptoBulkAll spare + 1
  | .agg parts => uptoBulkAll parts + 1
  | .iface _ d => uptoBulk d + 1
  | .map entries => uptoBulkEntries entries + 1
  | .held _ => 1
def uptoBulkAll {H : Type} : List (DataW H) → Nat
  | [] => 0
  | d :: r => uptoBulk d + uptoBulkAll r
def uptoBulkEntries {H : Type} : List (Lit × DataW H) → Nat
  | [] => 0
  | x :: r => uptoBulkEntry x + uptoBulkEntries r
def uptoBulkEntry {H : Type} : Lit × DataW H → Nat
  | (.string bytes, d) => bytes.length + uptoBulk d + 1
  | (_, d) => uptoBulk d + 1
 end
def uptoSmall : (H : Type) → List (DataW H) → Bool := fun _ ds => decide (uptoBulkAll ds ≤ 1048576)
def OpenSpec.upto (s : _root_.Go.ChangeSpec) : _root_.Go.OpenSpec := { _root_.Go.OpenSpec.ofChange s with cond := some uptoSmall }

/-- 'foliotlaw01.SumCRC', WHERE WHAT IT READS IS OF BULK AT MOST 1048576: true; the input reads as it did. -/
def sumCRCUptoRow : OpenClaim := { program := "ytiaepnlhedgicaa", sum := "dd5100fd55b0529aa0e010b73fb7860f963a1ce8c46751ba1ab700eb892935a5", func := "foliot/foliotlaw01.SumCRC", spec := "sumCRC", apart := false, narrowed := true }
def SumCRCUptoSaid : Prop := sumCRCUptoRow.holds Try.pinned (OpenSpec.upto sumCRCSpec)

/-- 'foliotlaw01.SumOf', WHERE WHAT IT READS IS OF BULK AT MOST 1048576: true; the input reads as it did. -/
def sumOfUptoRow : OpenClaim := { program := "ytiaepnlhedgicaa", sum := "dd5100fd55b0529aa0e010b73fb7860f963a1ce8c46751ba1ab700eb892935a5", func := "foliot/foliotlaw01.SumOf", spec := "sumOf", apart := false, narrowed := true }
def SumOfUptoSaid : Prop := sumOfUptoRow.holds Try.pinned (OpenSpec.upto sumOfSpec)

/-- 'foliotlaw01.SumParts', WHERE WHAT IT READS IS OF BULK AT MOST 1048576: true; the input reads as it did. -/
def sumPartsUptoRow : OpenClaim := { program := "ytiaepnlhedgicaa", sum := "dd5100fd55b0529aa0e010b73fb7860f963a1ce8c46751ba1ab700eb892935a5", func := "foliot/foliotlaw01.SumParts", spec := "sumParts", apart := false, narrowed := true }
def SumPartsUptoSaid : Prop := sumPartsUptoRow.holds Try.pinned (OpenSpec.upto sumPartsSpec)

/-- 'foliotlaw01.SumGoes', WHERE WHAT IT READS IS OF BULK AT MOST 1048576: true; the input reads as it did. -/
def sumGoesUptoRow : OpenClaim := { program := "ytiaepnlhedgicaa", sum := "dd5100fd55b0529aa0e010b73fb7860f963a1ce8c46751ba1ab700eb892935a5", func := "foliot/foliotlaw01.SumGoes", spec := "sumGoes", apart := false, narrowed := true }
def SumGoesUptoSaid : Prop := sumGoesUptoRow.holds Try.pinned (OpenSpec.upto sumGoesSpec)

/-- 'foliotlaw01.SumChain', WHERE WHAT IT READS IS OF BULK AT MOST 1048576: true; the input reads as it did. -/
def sumChainUptoRow : OpenClaim := { program := "ytiaepnlhedgicaa", sum := "dd5100fd55b0529aa0e010b73fb7860f963a1ce8c46751ba1ab700eb892935a5", func := "foliot/foliotlaw01.SumChain", spec := "sumChain", apart := false, narrowed := true }
def SumChainUptoSaid : Prop := sumChainUptoRow.holds Try.pinned (OpenSpec.upto sumChainSpec)

/-- 'foliotlaw01.SumBit', WHERE WHAT IT READS IS OF BULK AT MOST 1048576: true; the input reads as it did. -/
def sumBitUptoRow : OpenClaim := { program := "ytiaepnlhedgicaa", sum := "dd5100fd55b0529aa0e010b73fb7860f963a1ce8c46751ba1ab700eb892935a5", func := "foliot/foliotlaw01.SumBit", spec := "sumBit", apart := false, narrowed := true }
def SumBitUptoSaid : Prop := sumBitUptoRow.holds Try.pinned (OpenSpec.upto sumBitSpec)

/-- 'foliotlaw01.SumRuns', WHERE WHAT IT READS IS OF BULK AT MOST 1048576: true; the input reads as it did. -/
def sumRunsUptoRow : OpenClaim := { program := "ytiaepnlhedgicaa", sum := "dd5100fd55b0529aa0e010b73fb7860f963a1ce8c46751ba1ab700eb892935a5", func := "foliot/foliotlaw01.SumRuns", spec := "sumRuns", apart := false, narrowed := true }
def SumRunsUptoSaid : Prop := sumRunsUptoRow.holds Try.pinned (OpenSpec.upto sumRunsSpec)

end Rows
end Go.Proofs.Ytiaepnlhedgicaa
