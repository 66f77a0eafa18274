/- Link: the sum of a sum and bytes behind it. -/
import Derived.Test.YtkkhcpknldlpoaaSOf
namespace Go.Proofs.Ytkkhcpknldlpoaa
set_option maxRecDepth 4000
set_option linter.unusedVariables false
set_option linter.unusedSimpArgs false
open Go Go.RowKit
end Go.Proofs.Ytkkhcpknldlpoaa
