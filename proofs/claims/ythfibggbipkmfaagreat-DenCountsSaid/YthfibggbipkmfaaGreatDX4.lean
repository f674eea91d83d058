/- Texts merged into one, for the number of files a claim may have: Still. -/
import Derived.StillTailTactics
import Derived.WalkKit
namespace Go.Fb
open Go
end Go.Fb
