/- An item of package align that came in. -/
import Derived.Test.YtdkdhhfejbecdaaArgs
import Derived.Test.YtdkdhhfejbecdaaRows
namespace Go.Proofs.Ytdkdhhfejbecdaa
open Go.RowKit Go.Fb
variable {W : World} {H : Type} {enc : TypeId × Value → H} {base : Nat}
theorem cell_bool {P : Program} {t : TypeId} {v : Value} (ht : P.underlying t = some .bool) (h : Cell.okWide P W .any base t v) : ∃ x, v = .bool x := by
  simp only [Cell.okWide, ht] at h
  cases v <;> simp only [Cell.ok, ht] at h
  exact ⟨_, rfl⟩
end Go.Proofs.Ytdkdhhfejbecdaa
