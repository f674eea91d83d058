/- DenRuns: the closed facts of the row, reckoned by the kernel, in a text of its own. -/
import Derived.Test.YtlejomlppjpchaaGreatRows
import Derived.JoinedOf
namespace Go.Proofs.YtlejomlppjpchaaGreat
open Go.ChangeShapes Go.WideShapes
set_option linter.unusedVariables false
set_option maxRecDepth 100000 in
theorem jf_DenRuns : joinedFacts Tryz.checked.prog 3 Tryz.f3 Rows.denRunsSpec Rows.denRunsRow = true := by kernel_rfl
end Go.Proofs.YtlejomlppjpchaaGreat
