/- Nodes whose Froms' slice has room for what it holds. -/
import Derived.Test.YtddngibfhklnfaaNd
namespace Go.Proofs.Ytddngibfhklnfaa
open Go.RowKit Go.Fb
def CapN (M : List Ndm) : Prop := ∀ m ∈ M, ∀ A n c, m.2.1 = .slice A n c → n ≤ c
end Go.Proofs.Ytddngibfhklnfaa
