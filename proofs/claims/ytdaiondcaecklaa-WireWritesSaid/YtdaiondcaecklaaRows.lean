/-
  No cell of these rows narrows 'for every input' (looked for: loops, veiled, ifaces, maps, wideKeys, modest, calm, conditions, laid).
  DERIVED. THE GIVEN ROWS OF THIS SEAT. 6 by the template 'for every input the law returns true; each argument reads behind the call as it read before'; 0 by the template 'total and deterministic' (their statements: YtdaiondcaecklaaTotals.lean).
  GIVEN WITH THE SEED: the statements are not yours to turn. If you find one false, say at which input.
  Laid BY PROGRAM, IN A SANDBOX (cutbox-rows.mjs): the forced cells as the released guide's own fill.sh prints them over the translation 0658a1506b7e868d… (all of the seat's roots in one cut). By AI agents, Wed Nov 11 2026. No macro, syntax, notation, axiom, sorry.
-/
import Derived.Test.YtdaiondcaecklaaChecked
import GoSem.Claim
import GoSem.ClaimJoined
import GoSem.ClaimMapViews
import Derived.JoinedTies
import Derived.KernelRfl
namespace Go.Proofs.Ytdaiondcaecklaa
/- THE CELL 'sum', in the pinned program and in every row, IS THE sha256 OF THE DUMP (.gsa) THAT YtdaiondcaecklaaProg.lean LOADS. Nothing in Lean hashes anything: it is a label: what it is worth is what the hold of that sum in a sandbox is worth. -/
noncomputable def Try.pinned : Pinned := { name := "ytdaiondcaecklaa", sum := "0658a1506b7e868d3758b9762f78293aaf356cf8576f58c8fa9cf187977d182f", checked := Try.checked }
namespace Rows
def none {H : Type} : Left H := { results := [], args := [] }

/-- 'foliotlaw02.WireSmall': WHATEVER THE INPUT: true; the input reads as it did. -/
def wireSmallSpec : ChangeSpec := { name := "wireSmall", fn := fun _ => fun
  | [d1, d2] => { results := [.lit (.bool true)], args := [d1, d2] }
  | _ => none }
def wireSmallRow : OpenClaim := { program := "ytdaiondcaecklaa", sum := "0658a1506b7e868d3758b9762f78293aaf356cf8576f58c8fa9cf187977d182f", func := "foliot/foliotlaw02.WireSmall", spec := "wireSmall", apart := false }
def WireSmallSaid : Prop := wireSmallRow.holds Try.pinned (OpenSpec.ofChange wireSmallSpec)

/-- ITS FALSE NEIGHBOUR: 'it returns false'. Refute it at one input. -/
def wireSmallWrong : ChangeSpec := { name := "wireSmall", fn := fun _ => fun
  | [d1, d2] => { results := [.lit (.bool false)], args := [d1, d2] }
  | _ => none }
def WireSmallWrongFalsely : Prop := wireSmallRow.holds Try.pinned (OpenSpec.ofChange wireSmallWrong)

/-- 'foliotlaw02.WireOwn': WHATEVER THE INPUT: true; the input reads as it did. -/
def wireOwnSpec : ChangeSpec := { name := "wireOwn", fn := fun _ => fun
  | [d] => { results := [.lit (.bool true)], args := [d] }
  | _ => none }
def wireOwnRow : OpenClaim := { program := "ytdaiondcaecklaa", sum := "0658a1506b7e868d3758b9762f78293aaf356cf8576f58c8fa9cf187977d182f", func := "foliot/foliotlaw02.WireOwn", spec := "wireOwn", apart := false }
def WireOwnSaid : Prop := wireOwnRow.holds Try.pinned (OpenSpec.ofChange wireOwnSpec)

/-- ITS FALSE NEIGHBOUR: 'it returns false'. Refute it at one input. -/
def wireOwnWrong : ChangeSpec := { name := "wireOwn", fn := fun _ => fun
  | [d] => { results := [.lit (.bool false)], args := [d] }
  | _ => none }
def WireOwnWrongFalsely : Prop := wireOwnRow.holds Try.pinned (OpenSpec.ofChange wireOwnWrong)

/-- 'foliotlaw02.WireOne': WHATEVER THE INPUT: true; the input reads as it did. -/
def wireOneSpec : ChangeSpec := { name := "wireOne", fn := fun _ => fun
  | [d] => { results := [.lit (.bool true)], args := [d] }
  | _ => none }
def wireOneRow : OpenClaim := { program := "ytdaiondcaecklaa", sum := "0658a1506b7e868d3758b9762f78293aaf356cf8576f58c8fa9cf187977d182f", func := "foliot/foliotlaw02.WireOne", spec := "wireOne", apart := false }
def WireOneSaid : Prop := wireOneRow.holds Try.pinned (OpenSpec.ofChange wireOneSpec)

/-- ITS FALSE NEIGHBOUR: 'it returns false'. Refute it at one input. -/
def wireOneWrong : ChangeSpec := { name := "wireOne", fn := fun _ => fun
  | [d] => { results := [.lit (.bool false)], args := [d] }
  | _ => none }
def WireOneWrongFalsely : Prop := wireOneRow.holds Try.pinned (OpenSpec.ofChange wireOneWrong)

/-- 'foliotlaw02.WireFails': WHATEVER THE INPUT: true; the input reads as it did. -/
def wireFailsSpec : ChangeSpec := { name := "wireFails", fn := fun _ => fun
  | [d1, d2, d3] => { results := [.lit (.bool true)], args := [d1, d2, d3] }
  | _ => none }
def wireFailsRow : OpenClaim := { program := "ytdaiondcaecklaa", sum := "0658a1506b7e868d3758b9762f78293aaf356cf8576f58c8fa9cf187977d182f", func := "foliot/foliotlaw02.WireFails", spec := "wireFails", apart := false }
def WireFailsSaid : Prop := wireFailsRow.holds Try.pinned (OpenSpec.ofChange wireFailsSpec)

/-- ITS FALSE NEIGHBOUR: 'it returns false'. Refute it at one input. -/
def wireFailsWrong : ChangeSpec := { name := "wireFails", fn := fun _ => fun
  | [d1, d2, d3] => { results := [.lit (.bool false)], args := [d1, d2, d3] }
  | _ => none }
def WireFailsWrongFalsely : Prop := wireFailsRow.holds Try.pinned (OpenSpec.ofChange wireFailsWrong)

/-- 'foliotlaw02.WireReads': WHATEVER THE INPUT: true; the input reads as it did. -/
def wireReadsSpec : ChangeSpec := { name := "wireReads", fn := fun _ => fun
  | [d1, d2] => { results := [.lit (.bool true)], args := [d1, d2] }
  | _ => none }
def wireReadsRow : OpenClaim := { program := "ytdaiondcaecklaa", sum := "0658a1506b7e868d3758b9762f78293aaf356cf8576f58c8fa9cf187977d182f", func := "foliot/foliotlaw02.WireReads", spec := "wireReads", apart := false }
def WireReadsSaid : Prop := wireReadsRow.holds Try.pinned (OpenSpec.ofChange wireReadsSpec)

/-- ITS FALSE NEIGHBOUR: 'it returns false'. Refute it at one input. -/
def wireReadsWrong : ChangeSpec := { name := "wireReads", fn := fun _ => fun
  | [d1, d2] => { results := [.lit (.bool false)], args := [d1, d2] }
  | _ => none }
def WireReadsWrongFalsely : Prop := wireReadsRow.holds Try.pinned (OpenSpec.ofChange wireReadsWrong)

/-- 'foliotlaw02.WireWrites': WHATEVER THE INPUT: true; the input reads as it did. -/
def wireWritesSpec : ChangeSpec := { name := "wireWrites", fn := fun _ => fun
  | [d] => { results := [.lit (.bool true)], args := [d] }
  | _ => none }
def wireWritesRow : OpenClaim := { program := "ytdaiondcaecklaa", sum := "0658a1506b7e868d3758b9762f78293aaf356cf8576f58c8fa9cf187977d182f", func := "foliot/foliotlaw02.WireWrites", spec := "wireWrites", recurses := true, apart := false }
def WireWritesSaid : Prop := wireWritesRow.holds Try.pinned (OpenSpec.ofChange wireWritesSpec)

/-- ITS FALSE NEIGHBOUR: 'it returns false'. Refute it at one input. -/
def wireWritesWrong : ChangeSpec := { name := "wireWrites", fn := fun _ => fun
  | [d] => { results := [.lit (.bool false)], args := [d] }
  | _ => none }
def WireWritesWrongFalsely : Prop := wireWritesRow.holds Try.pinned (OpenSpec.ofChange wireWritesWrong)

/- THE SECOND FORM. 'bulk': how many values and letters a reading holds, each counted each time it is reached (what is shared counts as often as it is met; a slice's spare places count too). A statement '..UptoSaid' is the law's where the arguments, and the package variables that the reading takes, are together of bulk at most 1048576: NARROWER than '..Said'. Prove '..Said' where nothing that the law and all that it calls make is longer than what came in: it says more and counts as full. Else prove '..UptoSaid'. A law counts once. -/
mutual
def uptoBulk {H : Type} : DataW H → Nat
  | .lit (.string bytes) => bytes.length + 1
  | .lit _ => 1
  | .nil => 1
  | .ptr d => uptoBulk d + 1
  | .slice elems spare => uptoBulkAll elems + uptoBulkAll spare + 1
  | .agg parts => uptoBulkAll parts + 1
  | .iface _ d => uptoBulk d + 1
  | .map entries => uptoBulkEntries entries + 1
  | .held _ => 1
def uptoBulkAll {H : Type} : List (DataW H) → Nat
  | [] => 0
  | d :: r => uptoBulk d + uptoBulkAll r
def uptoBulkEntries {H : Type} : List (Lit × DataW H) → Nat
  | [] => 0
  | x :: r => uptoBulkEntry x + uptoBulkEntries r
def uptoBulkEntry {H : Type} : Lit × DataW H → Nat
  | (.string bytes, d) => bytes.length + uptoBulk d + 1
  | (_, d) => uptoBulk d + 1
 end
def uptoSmall : (H : Type) → List (DataW H) → Bool := fun _ ds => decide (uptoBulkAll ds ≤ 1048576)
def OpenSpec.upto (s : _root_.Go.ChangeSpec) : _root_.Go.OpenSpec := { _root_.Go.OpenSpec.ofChange s with cond := some uptoSmall }

/-- 'foliotlaw02.WireSmall', WHERE WHAT IT READS IS OF BULK AT MOST 1048576: true; the input reads as it did. -/
def wireSmallUptoRow : OpenClaim := { program := "ytdaiondcaecklaa", sum := "0658a1506b7e868d3758b9762f78293aaf356cf8576f58c8fa9cf187977d182f", func := "foliot/foliotlaw02.WireSmall", spec := "wireSmall", apart := false, narrowed := true }
def WireSmallUptoSaid : Prop := wireSmallUptoRow.holds Try.pinned (OpenSpec.upto wireSmallSpec)

/-- 'foliotlaw02.WireOwn', WHERE WHAT IT READS IS OF BULK AT MOST 1048576: true; the input reads as it did. -/
def wireOwnUptoRow : OpenClaim := { program := "ytdaiondcaecklaa", sum := "0658a1506b7e868d3758b9762f78293aaf356cf8576f58c8fa9cf187977d182f", func := "foliot/foliotlaw02.WireOwn", spec := "wireOwn", apart := false, narrowed := true }
def WireOwnUptoSaid : Prop := wireOwnUptoRow.holds Try.pinned (OpenSpec.upto wireOwnSpec)

/-- 'foliotlaw02.WireOne', WHERE WHAT IT READS IS OF BULK AT MOST 1048576: true; the input reads as it did. -/
def wireOneUptoRow : OpenClaim := { program := "ytdaiondcaecklaa", sum := "0658a1506b7e868d3758b9762f78293aaf356cf8576f58c8fa9cf187977d182f", func := "foliot/foliotlaw02.WireOne", spec := "wireOne", apart := false, narrowed := true }
def WireOneUptoSaid : Prop := wireOneUptoRow.holds Try.pinned (OpenSpec.upto wireOneSpec)

/-- 'foliotlaw02.WireFails', WHERE WHAT IT READS IS OF BULK AT MOST 1048576: true; the input reads as it did. -/
def wireFailsUptoRow : OpenClaim := { program := "ytdaiondcaecklaa", sum := "0658a1506b7e868d3758b9762f78293aaf356cf8576f58c8fa9cf187977d182f", func := "foliot/foliotlaw02.WireFails", spec := "wireFails", apart := false, narrowed := true }
def WireFailsUptoSaid : Prop := wireFailsUptoRow.holds Try.pinned (OpenSpec.upto wireFailsSpec)

/-- 'foliotlaw02.WireReads', WHERE WHAT IT READS IS OF BULK AT MOST 1048576: true; the input reads as it did. -/
def wireReadsUptoRow : OpenClaim := { program := "ytdaiondcaecklaa", sum := "0658a1506b7e868d3758b9762f78293aaf356cf8576f58c8fa9cf187977d182f", func := "foliot/foliotlaw02.WireReads", spec := "wireReads", apart := false, narrowed := true }
def WireReadsUptoSaid : Prop := wireReadsUptoRow.holds Try.pinned (OpenSpec.upto wireReadsSpec)

/-- 'foliotlaw02.WireWrites', WHERE WHAT IT READS IS OF BULK AT MOST 1048576: true; the input reads as it did. -/
def wireWritesUptoRow : OpenClaim := { program := "ytdaiondcaecklaa", sum := "0658a1506b7e868d3758b9762f78293aaf356cf8576f58c8fa9cf187977d182f", func := "foliot/foliotlaw02.WireWrites", spec := "wireWrites", recurses := true, apart := false, narrowed := true }
def WireWritesUptoSaid : Prop := wireWritesUptoRow.holds Try.pinned (OpenSpec.upto wireWritesSpec)

end Rows
end Go.Proofs.Ytdaiondcaecklaa
