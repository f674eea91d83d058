/- DenCuts: the closed facts of the row, reckoned by the kernel, in a text of its own. -/
import Derived.Test.YthfibggbipkmfaaGreatRows
import Derived.JoinedOf
namespace Go.Proofs.YthfibggbipkmfaaGreat
open Go.ChangeShapes Go.WideShapes
set_option linter.unusedVariables false
set_option maxRecDepth 100000 in
theorem jf_DenCuts : joinedFacts Tryz.checked.prog 8 Tryz.f8 Rows.denCutsSpec Rows.denCutsRow = true := by kernel_rfl
end Go.Proofs.YthfibggbipkmfaaGreat
