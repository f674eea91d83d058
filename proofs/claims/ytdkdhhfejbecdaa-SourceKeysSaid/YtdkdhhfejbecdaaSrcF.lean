/- A source with one partition: Left. -/
import Derived.Test.YtdkdhhfejbecdaaSrcE
namespace Go.Proofs.Ytdkdhhfejbecdaa
open Go.RowKit Go.Fb
end Go.Proofs.Ytdkdhhfejbecdaa
