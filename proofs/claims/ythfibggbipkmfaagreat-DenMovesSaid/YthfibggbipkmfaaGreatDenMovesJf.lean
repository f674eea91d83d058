/- DenMoves: the closed facts of the row, reckoned by the kernel, in a text of its own. -/
import Derived.Test.YthfibggbipkmfaaGreatRows
import Derived.JoinedOf
namespace Go.Proofs.YthfibggbipkmfaaGreat
open Go.ChangeShapes Go.WideShapes
set_option linter.unusedVariables false
set_option maxRecDepth 100000 in
theorem jf_DenMoves : joinedFacts Tryz.checked.prog 7 Tryz.f7 Rows.denMovesSpec Rows.denMovesRow = true := by kernel_rfl
end Go.Proofs.YthfibggbipkmfaaGreat
