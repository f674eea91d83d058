/- TaskReads: the closed facts of the row, reckoned by the kernel, in a text of its own. -/
import Derived.Test.YtgblfflikgnfpaaGreatRows
import Derived.JoinedOf
namespace Go.Proofs.YtgblfflikgnfpaaGreat
open Go.ChangeShapes Go.WideShapes
set_option linter.unusedVariables false
set_option maxRecDepth 100000 in
theorem jf_TaskReads : joinedFacts Tryz.checked.prog 7 Tryz.f7 Rows.taskReadsSpec Rows.taskReadsRow = true := by kernel_rfl
end Go.Proofs.YtgblfflikgnfpaaGreat
