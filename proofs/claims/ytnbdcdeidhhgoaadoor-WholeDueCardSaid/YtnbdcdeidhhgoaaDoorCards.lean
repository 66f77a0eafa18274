/-
  DERIVED. GIVEN WITH THE SEED: THE CARDS: each row of YtnbdcdeidhhgoaaDoorRows.lean that lists a variable, with what it lists TIED to the program's text (the seventh form; the later family's looks); each row that meets fmt, with fmt's text TOLD by the authors' own Lean function (tested against real Go, not proved from fmt's source: count such statements apart). THE CARD IS WHAT COUNTS. Prove the row's statement (the work); the ties are given (YtnbdcdeidhhgoaaDoorTie.lean); close each card by the builder's one call (the guide's Derived/Test/ToyasCard.lean, 'card_holds'). Laid BY PROGRAM, IN A SANDBOX (cutbox-door.mjs). By AI agents, Wed Nov 11 2026. No macro, syntax, notation, axiom, sorry.
-/
import Derived.Test.YtnbdcdeidhhgoaaDoorRows
import GoSem.ClaimSeven
namespace Go.Proofs.YtnbdcdeidhhgoaaDoor
namespace Rows

/-- THE TIED CARD OF 'foliottop.WholeDue'. -/
def wholeDueCard : Claim7 := { stood := { row := wholeDueRow, standIns := [], harness := (true, "73665be0e34e664609d01b5b3cc65009abacd118b6e0aa61cec16cdf29338fd0"), looks := false }, kinds := [], alts := [], laidByText := true, laidKinds := [.data, .pinned], laidTests := true, laidLooks := .later }
def WholeDueCardSaid : Prop := Claim7.holds Tryd.pinned (.plain (OpenSpec.ofChange wholeDueSpec)) wholeDueCard

/-- THE SECOND FORM's CARD OF 'foliottop.WholeDue'. -/
def wholeDueUptoCard : Claim7 := { stood := { row := wholeDueUptoRow, standIns := [], harness := (true, "73665be0e34e664609d01b5b3cc65009abacd118b6e0aa61cec16cdf29338fd0"), looks := false }, kinds := [], alts := [], laidByText := true, laidKinds := [.data, .pinned], laidTests := true, laidLooks := .later }
def WholeDueUptoCardSaid : Prop := Claim7.holds Tryd.pinned (.plain (OpenSpec.upto wholeDueSpec)) wholeDueUptoCard
end Rows
end Go.Proofs.YtnbdcdeidhhgoaaDoor
