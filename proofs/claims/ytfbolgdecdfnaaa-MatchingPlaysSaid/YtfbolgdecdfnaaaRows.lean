/-
  No cell of these rows narrows 'for every input' (looked for: loops, veiled, ifaces, maps, wideKeys, modest, calm, conditions, laid).
  DERIVED. THE GIVEN ROWS OF THIS SEAT. 4 by the template 'for every input the law returns true; each argument reads behind the call as it read before'; 0 by the template 'total and deterministic' (their statements: YtfbolgdecdfnaaaTotals.lean).
  GIVEN WITH THE SEED: the statements are not yours to turn. If you find one false, say at which input.
  Laid BY PROGRAM, IN A SANDBOX (cutbox-rows.mjs): the forced cells as the released guide's own fill.sh prints them over the translation b29be445691944c8… (all of the seat's roots in one cut). By AI agents, Wed Nov 11 2026. No macro, syntax, notation, axiom, sorry.
-/
import Derived.Test.YtfbolgdecdfnaaaChecked
import GoSem.Claim
import GoSem.ClaimJoined
import GoSem.ClaimMapViews
import Derived.JoinedTies
import Derived.KernelRfl
namespace Go.Proofs.Ytfbolgdecdfnaaa
/- THE CELL 'sum', in the pinned program and in every row, IS THE sha256 OF THE DUMP (.gsa) THAT YtfbolgdecdfnaaaProg.lean LOADS. Nothing in Lean hashes anything: it is a label: what it is worth is what the hold of that sum in a sandbox is worth. -/
noncomputable def Try.pinned : Pinned := { name := "ytfbolgdecdfnaaa", sum := "b29be445691944c80e704a8d8a22ad9d60615dfb0f902242c36cf04c6061415f", checked := Try.checked }
namespace Rows
def none {H : Type} : Left H := { results := [], args := [] }

/-- 'foliotlaw21.MatchingMany': WHATEVER THE INPUT: true; the input reads as it did. -/
def matchingManySpec : ChangeSpec := { name := "matchingMany", fn := fun _ => fun
  | [d1, d2] => { results := [.lit (.bool true)], args := [d1, d2] }
  | _ => none }
def matchingManyRow : OpenClaim := { program := "ytfbolgdecdfnaaa", sum := "b29be445691944c80e704a8d8a22ad9d60615dfb0f902242c36cf04c6061415f", func := "foliot/foliotlaw21.MatchingMany", spec := "matchingMany", inPlace := ["sync/atomic.AddUint64", "sync/atomic.LoadUint64"], unfollowed := true, recurses := true, plainKeys := false, apart := false }
def MatchingManySaid : Prop := matchingManyRow.holds Try.pinned (OpenSpec.ofChange matchingManySpec)

/-- ITS FALSE NEIGHBOUR: 'it returns false'. Refute it at one input. -/
def matchingManyWrong : ChangeSpec := { name := "matchingMany", fn := fun _ => fun
  | [d1, d2] => { results := [.lit (.bool false)], args := [d1, d2] }
  | _ => none }
def MatchingManyWrongFalsely : Prop := matchingManyRow.holds Try.pinned (OpenSpec.ofChange matchingManyWrong)

/-- 'foliotlaw21.MatchingSticky': WHATEVER THE INPUT: true; the input reads as it did. -/
def matchingStickySpec : ChangeSpec := { name := "matchingSticky", fn := fun _ => fun
  | [d1, d2, d3] => { results := [.lit (.bool true)], args := [d1, d2, d3] }
  | _ => none }
def matchingStickyRow : OpenClaim := { program := "ytfbolgdecdfnaaa", sum := "b29be445691944c80e704a8d8a22ad9d60615dfb0f902242c36cf04c6061415f", func := "foliot/foliotlaw21.MatchingSticky", spec := "matchingSticky", inPlace := ["sync/atomic.AddUint64", "sync/atomic.LoadUint64"], unfollowed := true, recurses := true, plainKeys := false, apart := false }
def MatchingStickySaid : Prop := matchingStickyRow.holds Try.pinned (OpenSpec.ofChange matchingStickySpec)

/-- ITS FALSE NEIGHBOUR: 'it returns false'. Refute it at one input. -/
def matchingStickyWrong : ChangeSpec := { name := "matchingSticky", fn := fun _ => fun
  | [d1, d2, d3] => { results := [.lit (.bool false)], args := [d1, d2, d3] }
  | _ => none }
def MatchingStickyWrongFalsely : Prop := matchingStickyRow.holds Try.pinned (OpenSpec.ofChange matchingStickyWrong)

/-- 'foliotlaw21.MatchingOnce': WHATEVER THE INPUT: true; the input reads as it did. -/
def matchingOnceSpec : ChangeSpec := { name := "matchingOnce", fn := fun _ => fun
  | [d] => { results := [.lit (.bool true)], args := [d] }
  | _ => none }
def matchingOnceRow : OpenClaim := { program := "ytfbolgdecdfnaaa", sum := "b29be445691944c80e704a8d8a22ad9d60615dfb0f902242c36cf04c6061415f", func := "foliot/foliotlaw21.MatchingOnce", spec := "matchingOnce", inPlace := ["sync/atomic.AddUint64", "sync/atomic.LoadUint64"], unfollowed := true, recurses := true, plainKeys := false, apart := false }
def MatchingOnceSaid : Prop := matchingOnceRow.holds Try.pinned (OpenSpec.ofChange matchingOnceSpec)

/-- ITS FALSE NEIGHBOUR: 'it returns false'. Refute it at one input. -/
def matchingOnceWrong : ChangeSpec := { name := "matchingOnce", fn := fun _ => fun
  | [d] => { results := [.lit (.bool false)], args := [d] }
  | _ => none }
def MatchingOnceWrongFalsely : Prop := matchingOnceRow.holds Try.pinned (OpenSpec.ofChange matchingOnceWrong)

/-- 'foliotlaw21.MatchingPlays': WHATEVER THE INPUT: true; the input reads as it did. -/
def matchingPlaysSpec : ChangeSpec := { name := "matchingPlays", fn := fun _ => fun
  | [d] => { results := [.lit (.bool true)], args := [d] }
  | _ => none }
def matchingPlaysRow : OpenClaim := { program := "ytfbolgdecdfnaaa", sum := "b29be445691944c80e704a8d8a22ad9d60615dfb0f902242c36cf04c6061415f", func := "foliot/foliotlaw21.MatchingPlays", spec := "matchingPlays", inPlace := ["sync/atomic.AddUint64", "sync/atomic.LoadUint64"], unfollowed := true, recurses := true, plainKeys := false, apart := false }
def MatchingPlaysSaid : Prop := matchingPlaysRow.holds Try.pinned (OpenSpec.ofChange matchingPlaysSpec)

/-- ITS FALSE NEIGHBOUR: 'it returns false'. Refute it at one input. -/
def matchingPlaysWrong : ChangeSpec := { name := "matchingPlays", fn := fun _ => fun
  | [d] => { results := [.lit (.bool false)], args := [d] }
  | _ => none }
def MatchingPlaysWrongFalsely : Prop := matchingPlaysRow.holds Try.pinned (OpenSpec.ofChange matchingPlaysWrong)

/- THE SECOND FORM. 'bulk': how many values and letters a reading holds, each counted each time it is reached (what is shared counts as often as it is met; a slice's spare places count too). A statement '..UptoSaid' is the law's where the arguments, and the package variables that the reading takes, are together of bulk at most 1048576: NARROWER than '..Said'. Prove '..Said' where nothing that the law and all that it calls make is longer than what came in: it says more and counts as full. Else prove '..UptoSaid'. A law counts once. -/
mutual
def uptoBulk {H : Type} : DataW H → Nat
  | .lit (.string bytes) => bytes.length + 1
  | .lit _ => 1
  | .nil => 1
  | .ptr d => uptoBulk d + 1
  | .slice elems spare => uptoBulkAll elems + uptoBulkAll spare + 1
  | .agg parts => uptoBulkAll parts + 1
  | .iface _ d => uptoBulk d + 1
  | .map entries => uptoBulkEntries entries + 1
  | .held _ => 1
def uptoBulkAll {H : Type} : List (DataW H) → Nat
  | [] => 0
  | d :: r => uptoBulk d + uptoBulkAll r
def uptoBulkEntries {H : Type} : List (Lit × DataW H) → Nat
  | [] => 0
  | x :: r => uptoBulkEntry x + uptoBulkEntries r
def uptoBulkEntry {H : Type} : Lit × DataW H → Nat
  | (.string bytes, d) => bytes.length + uptoBulk d + 1
  | (_, d) => uptoBulk d + 1
 end
def uptoSmall : (H : Type) → List (DataW H) → Bool := fun _ ds => decide (uptoBulkAll ds ≤ 1048576)
def OpenSpec.upto (s : _root_.Go.ChangeSpec) : _root_.Go.OpenSpec := { _root_.Go.OpenSpec.ofChange s with cond := some uptoSmall }

/-- 'foliotlaw21.MatchingMany', WHERE WHAT IT READS IS OF BULK AT MOST 1048576: true; the input reads as it did. -/
def matchingManyUptoRow : OpenClaim := { program := "ytfbolgdecdfnaaa", sum := "b29be445691944c80e704a8d8a22ad9d60615dfb0f902242c36cf04c6061415f", func := "foliot/foliotlaw21.MatchingMany", spec := "matchingMany", inPlace := ["sync/atomic.AddUint64", "sync/atomic.LoadUint64"], unfollowed := true, recurses := true, plainKeys := false, apart := false, narrowed := true }
def MatchingManyUptoSaid : Prop := matchingManyUptoRow.holds Try.pinned (OpenSpec.upto matchingManySpec)

/-- 'foliotlaw21.MatchingSticky', WHERE WHAT IT READS IS OF BULK AT MOST 1048576: true; the input reads as it did. -/
def matchingStickyUptoRow : OpenClaim := { program := "ytfbolgdecdfnaaa", sum := "b29be445691944c80e704a8d8a22ad9d60615dfb0f902242c36cf04c6061415f", func := "foliot/foliotlaw21.MatchingSticky", spec := "matchingSticky", inPlace := ["sync/atomic.AddUint64", "sync/atomic.LoadUint64"], unfollowed := true, recurses := true, plainKeys := false, apart := false, narrowed := true }
def MatchingStickyUptoSaid : Prop := matchingStickyUptoRow.holds Try.pinned (OpenSpec.upto matchingStickySpec)

/-- 'foliotlaw21.MatchingOnce', WHERE WHAT IT READS IS OF BULK AT MOST 1048576: true; the input reads as it did. -/
def matchingOnceUptoRow : OpenClaim := { program := "ytfbolgdecdfnaaa", sum := "b29be445691944c80e704a8d8a22ad9d60615dfb0f902242c36cf04c6061415f", func := "foliot/foliotlaw21.MatchingOnce", spec := "matchingOnce", inPlace := ["sync/atomic.AddUint64", "sync/atomic.LoadUint64"], unfollowed := true, recurses := true, plainKeys := false, apart := false, narrowed := true }
def MatchingOnceUptoSaid : Prop := matchingOnceUptoRow.holds Try.pinned (OpenSpec.upto matchingOnceSpec)

/-- 'foliotlaw21.MatchingPlays', WHERE WHAT IT READS IS OF BULK AT MOST 1048576: true; the input reads as it did. -/
def matchingPlaysUptoRow : OpenClaim := { program := "ytfbolgdecdfnaaa", sum := "b29be445691944c80e704a8d8a22ad9d60615dfb0f902242c36cf04c6061415f", func := "foliot/foliotlaw21.MatchingPlays", spec := "matchingPlays", inPlace := ["sync/atomic.AddUint64", "sync/atomic.LoadUint64"], unfollowed := true, recurses := true, plainKeys := false, apart := false, narrowed := true }
def MatchingPlaysUptoSaid : Prop := matchingPlaysUptoRow.holds Try.pinned (OpenSpec.upto matchingPlaysSpec)

end Rows
end Go.Proofs.Ytfbolgdecdfnaaa
