/- TaskCommits: the closed facts of the row, reckoned by the kernel, in a text of its own. -/
import Derived.Test.YtgblfflikgnfpaaGreatRows
import Derived.JoinedOf
namespace Go.Proofs.YtgblfflikgnfpaaGreat
open Go.ChangeShapes Go.WideShapes
set_option linter.unusedVariables false
set_option maxRecDepth 100000 in
theorem jf_TaskCommits : joinedFacts Tryz.checked.prog 3 Tryz.f3 Rows.taskCommitsSpec Rows.taskCommitsRow = true := by kernel_rfl
end Go.Proofs.YtgblfflikgnfpaaGreat
