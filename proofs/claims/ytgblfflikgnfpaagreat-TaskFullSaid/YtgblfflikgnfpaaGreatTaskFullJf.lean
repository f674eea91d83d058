/- TaskFull: the closed facts of the row, reckoned by the kernel, in a text of its own. -/
import Derived.Test.YtgblfflikgnfpaaGreatRows
import Derived.JoinedOf
namespace Go.Proofs.YtgblfflikgnfpaaGreat
open Go.ChangeShapes Go.WideShapes
set_option linter.unusedVariables false
set_option maxRecDepth 100000 in
theorem jf_TaskFull : joinedFacts Tryz.checked.prog 5 Tryz.f5 Rows.taskFullSpec Rows.taskFullRow = true := by kernel_rfl
end Go.Proofs.YtgblfflikgnfpaaGreat
