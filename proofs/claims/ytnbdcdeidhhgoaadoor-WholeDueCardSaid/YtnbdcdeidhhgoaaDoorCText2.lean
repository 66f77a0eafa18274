/- cron: the document's numbers, least, most; cuts. -/
import Derived.Test.YtnbdcdeidhhgoaaDoorCText
import Derived.Deep.QuietTactic
import Derived.BigQuiet
namespace Go.Proofs.YtnbdcdeidhhgoaaDoor
set_option maxRecDepth 4000
set_option linter.unusedVariables false
set_option linter.unusedSimpArgs false
open Go Go.RowKit
def numR : Option Nat → Int
  | some n => n
  | none => -1
def lo (k : Nat) : Nat := if k = 2 ∨ k = 3 then 1 else 0
def hi (k : Nat) : Nat := if k = 0 then 59 else if k = 1 then 23 else if k = 2 then 31 else if k = 3 then 12 else 6
end Go.Proofs.YtnbdcdeidhhgoaaDoor
