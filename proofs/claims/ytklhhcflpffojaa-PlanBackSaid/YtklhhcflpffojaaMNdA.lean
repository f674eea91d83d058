/- Texts merged into one, for the number of files a claim may have: NdArg. -/
import Derived.Test.YtklhhcflpffojaaMNdsA
namespace Go.Proofs.Ytklhhcflpffojaa
open Go.RowKit Go.Fb Go.ChangeShapes Go.WideShapes Go.ChangeAt
variable {W : World} {H : Type} {enc : TypeId × Value → H} {base : Nat}
set_option maxRecDepth 100000 in
theorem arg_nd {v : Value} {d : DataW H} {p : List MemPlace} (hok : Value.okWide Try.prog W .any base 36 v) (h : DataW.Trod enc Try.prog W 0 (fun _ => true) true 36 v d p) :
    ∃ (x : Nd) (sf sp : Value), v = .agg (ndA x sf sp) ∧ NdIn W W.heap.size (x, sf, sp) := by
  obtain ⟨cs, rfl, _, _⟩ := agg_cells (ts := [3, 3, 32, 33, 3, 3, 3, 3, 3, 3, 3, 3, 3]) Try.underlying36 rfl (by kernel_rfl) (by kernel_rfl) hok
  obtain ⟨fuel, hf⟩ := h
  obtain ⟨m, h1, h2, _, _⟩ := nd_cells hf
  simp only [Value.cells] at h1
  obtain ⟨x, sf, sp⟩ := m
  refine ⟨x, sf, sp, ?_, h2⟩
  have : cs = ndA x sf sp := by
    rw [← Array.toArray_toList (xs := cs)]
    rw [h1]
    rfl
  rw [this]
end Go.Proofs.Ytklhhcflpffojaa
