/- DenBranches: the closed facts of the row, reckoned by the kernel, in a text of its own. -/
import Derived.Test.YthfibggbipkmfaaGreatRows
import Derived.JoinedOf
namespace Go.Proofs.YthfibggbipkmfaaGreat
open Go.ChangeShapes Go.WideShapes
set_option linter.unusedVariables false
set_option maxRecDepth 100000 in
theorem jf_DenBranches : joinedFacts Tryz.checked.prog 6 Tryz.f6 Rows.denBranchesSpec Rows.denBranchesRow = true := by kernel_rfl
end Go.Proofs.YthfibggbipkmfaaGreat
