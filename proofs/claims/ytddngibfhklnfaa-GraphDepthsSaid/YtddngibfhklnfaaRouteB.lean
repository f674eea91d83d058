/- The contracts of package route, second part: lists of groups. -/
import Derived.Test.YtddngibfhklnfaaRouteA
namespace Go.Proofs.Ytddngibfhklnfaa
open Go.RowKit Go.Fb

theorem intsTy : SliceTy Try.prog 28 3 1 8 := SliceTy.mk' (z := .int .i64 0) Try.underlying28 (by kernel_rfl) rfl (by omega)
/-- A list of ints of the call's own is handed back; nothing that was there has turned. -/
def RetInts (w : World) (xs : List Int) (e : Ending) (w' : World) : Prop :=
  ∃ A c, e = .returned (.slice A xs.length c) ∧ w'.ownsRow w.heap.size 3 1 (.slice A xs.length c) xs.length (xs.map (Value.int .i64)) ∧ Fr w.heap.size [] w w'
/-- The groups of which something is so. -/
def someTo (p : Nat → Bool) (n : Nat) : List Int := ((List.range n).filter p).map fun k : Nat => (k : Int)
theorem someTo_succ (p : Nat → Bool) (k : Nat) : someTo p (k + 1) = someTo p k ++ if p k then [(k : Int)] else [] := by
  unfold someTo
  rw [List.range_succ, List.filter_append, List.map_append]
  cases h : p k <;> simp [h]
theorem someTo_length (p : Nat → Bool) (k : Nat) : (someTo p k).length ≤ k := by
  unfold someTo
  have := List.length_filter_le p (List.range k)
  simp at this ⊢
  omega

end Go.Proofs.Ytddngibfhklnfaa
