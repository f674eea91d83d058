/- DenCounts: the closed facts of the row, reckoned by the kernel, in a text of its own. -/
import Derived.Test.YthfibggbipkmfaaGreatRows
import Derived.JoinedOf
namespace Go.Proofs.YthfibggbipkmfaaGreat
open Go.ChangeShapes Go.WideShapes
set_option linter.unusedVariables false
set_option maxRecDepth 100000 in
theorem jf_DenCounts : joinedFacts Tryz.checked.prog 3 Tryz.f3 Rows.denCountsSpec Rows.denCountsRow = true := by kernel_rfl
end Go.Proofs.YthfibggbipkmfaaGreat
