/- An item of package align that came in. -/
import Derived.Test.YtkmpcddhbdndkaaArgs
import Derived.Test.YtkmpcddhbdndkaaRows
namespace Go.Proofs.Ytkmpcddhbdndkaa
open Go.RowKit Go.Fb
variable {W : World} {H : Type} {enc : TypeId × Value → H} {base : Nat}
theorem cell_bool {P : Program} {t : TypeId} {v : Value} (ht : P.underlying t = some .bool) (h : Cell.okWide P W .any base t v) : ∃ x, v = .bool x := by
  simp only [Cell.okWide, ht] at h
  cases v <;> simp only [Cell.ok, ht] at h
  exact ⟨_, rfl⟩
set_option maxRecDepth 100000 in
theorem item_ok {v : Value} (hok : Value.okWide Try.prog W .any base 70 v) :
    ∃ (b : Bool) (k re im ep : Int) (p : Bool), v = .agg #[.bool b, .int .i64 k, .int .i64 re, .int .i64 im, .int .i64 ep, .bool p] ∧ (∀ x ∈ [k, re, im, ep], (Lit.int .i64 x).wf = true) := by
  obtain ⟨cs, rfl, hs, hc⟩ := agg_cells (ts := [4, 3, 3, 3, 3, 4]) Try.underlying70 rfl (by kernel_rfl) (by kernel_rfl) hok
  obtain ⟨x0, e0, c0⟩ := hc 0 _ rfl
  obtain ⟨x1, e1, c1⟩ := hc 1 _ rfl
  obtain ⟨x2, e2, c2⟩ := hc 2 _ rfl
  obtain ⟨x3, e3, c3⟩ := hc 3 _ rfl
  obtain ⟨x4, e4, c4⟩ := hc 4 _ rfl
  obtain ⟨x5, e5, c5⟩ := hc 5 _ rfl
  obtain ⟨b, rfl⟩ := cell_bool Try.underlying4 c0
  obtain ⟨k, rfl, wk⟩ := cell_int Try.underlying3 c1
  obtain ⟨re, rfl, wre⟩ := cell_int Try.underlying3 c2
  obtain ⟨im, rfl, wim⟩ := cell_int Try.underlying3 c3
  obtain ⟨ep, rfl, wep⟩ := cell_int Try.underlying3 c4
  obtain ⟨p, rfl⟩ := cell_bool Try.underlying4 c5
  refine ⟨b, k, re, im, ep, p, ?_, by simp [wk, wre, wim, wep]⟩
  congr 1
  apply Array.ext_getElem?
  intro i
  match i with
  | 0 => exact e0
  | 1 => exact e1
  | 2 => exact e2
  | 3 => exact e3
  | 4 => exact e4
  | 5 => exact e5
  | j + 6 =>
    simp at hs
    rw [Array.getElem?_eq_none (by omega), Array.getElem?_eq_none (by simp)]
set_option maxRecDepth 100000 in
theorem arg_item {v : Value} {d : DataW H} {p : List MemPlace} (hok : Value.okWide Try.prog W .any base 70 v) (_h : DataW.Trod enc Try.prog W 0 (fun _ => true) true 70 v d p) :
    ∃ (b : Bool) (k re im ep : Int) (p : Bool), v = .agg #[.bool b, .int .i64 k, .int .i64 re, .int .i64 im, .int .i64 ep, .bool p] ∧ (∀ x ∈ [k, re, im, ep], (Lit.int .i64 x).wf = true) := item_ok hok
end Go.Proofs.Ytkmpcddhbdndkaa
