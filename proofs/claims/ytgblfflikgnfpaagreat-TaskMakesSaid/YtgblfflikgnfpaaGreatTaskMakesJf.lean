/- TaskMakes: the closed facts of the row, reckoned by the kernel, in a text of its own. -/
import Derived.Test.YtgblfflikgnfpaaGreatRows
import Derived.JoinedOf
namespace Go.Proofs.YtgblfflikgnfpaaGreat
open Go.ChangeShapes Go.WideShapes
set_option linter.unusedVariables false
set_option maxRecDepth 100000 in
theorem jf_TaskMakes : joinedFacts Tryz.checked.prog 6 Tryz.f6 Rows.taskMakesSpec Rows.taskMakesRow = true := by kernel_rfl
end Go.Proofs.YtgblfflikgnfpaaGreat
