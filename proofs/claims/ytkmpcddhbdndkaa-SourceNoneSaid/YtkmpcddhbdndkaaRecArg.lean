/- A record of package api that came in: three numbers. -/
import Derived.Test.YtkmpcddhbdndkaaItemArg
namespace Go.Proofs.Ytkmpcddhbdndkaa
open Go.RowKit Go.Fb
variable {W : World} {H : Type} {enc : TypeId × Value → H} {base : Nat}
set_option maxRecDepth 100000 in
theorem rec_ok {v : Value} (hok : Value.okWide Try.prog W .any base 59 v) :
    ∃ x : Nat → Int, v = .agg #[.int .i64 (x 0), .int .i64 (x 1), .int .i64 (x 2)] ∧ (∀ j, j < 3 → (Lit.int .i64 (x j)).wf = true) := by
  obtain ⟨cs, rfl, hs, hc⟩ := agg_cells (ts := [3, 3, 3]) Try.underlying59 rfl (by kernel_rfl) (by kernel_rfl) hok
  obtain ⟨x0, e0, c0⟩ := hc 0 _ rfl
  obtain ⟨x1, e1, c1⟩ := hc 1 _ rfl
  obtain ⟨x2, e2, c2⟩ := hc 2 _ rfl
  obtain ⟨a, rfl, wa⟩ := cell_int Try.underlying3 c0
  obtain ⟨b, rfl, wb⟩ := cell_int Try.underlying3 c1
  obtain ⟨c, rfl, wc⟩ := cell_int Try.underlying3 c2
  refine ⟨fun j => [a, b, c].getD j 0, ?_, fun j hj => ?_⟩
  · congr 1
    apply Array.ext_getElem?
    intro i
    match i with
    | 0 => exact e0
    | 1 => exact e1
    | 2 => exact e2
    | j + 3 =>
      simp at hs
      rw [Array.getElem?_eq_none (by omega), Array.getElem?_eq_none (by simp)]
  · match j, hj with
    | 0, _ => exact wa
    | 1, _ => exact wb
    | 2, _ => exact wc
set_option maxRecDepth 100000 in
theorem arg_rec {v : Value} {d : DataW H} {p : List MemPlace} (hok : Value.okWide Try.prog W .any base 59 v) (_h : DataW.Trod enc Try.prog W 0 (fun _ => true) true 59 v d p) :
    ∃ x : Nat → Int, v = .agg #[.int .i64 (x 0), .int .i64 (x 1), .int .i64 (x 2)] ∧ (∀ j, j < 3 → (Lit.int .i64 (x j)).wf = true) := rec_ok hok
end Go.Proofs.Ytkmpcddhbdndkaa
