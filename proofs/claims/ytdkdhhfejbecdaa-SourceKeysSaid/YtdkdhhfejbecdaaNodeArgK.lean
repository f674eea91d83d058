/- A node of package api that came in: thirteen cells, all of them numbers but the third and the fourth. -/
import Derived.Test.YtdkdhhfejbecdaaItemArg
namespace Go.Proofs.Ytdkdhhfejbecdaa
open Go.RowKit Go.Fb
variable {W : World} {H : Type} {enc : TypeId × Value → H} {base : Nat}
set_option maxRecDepth 100000 in
theorem node_okK {v : Value} (hok : Value.okWide Try.prog W .any base 55 v) :
    ∃ (id kind par : Int) (u2 u3 : Value) (r : Nat → Int), v = .agg #[.int .i64 id, .int .i64 kind, u2, u3, .int .i64 par, .int .i64 (r 0), .int .i64 (r 1), .int .i64 (r 2), .int .i64 (r 3), .int .i64 (r 4), .int .i64 (r 5), .int .i64 (r 6), .int .i64 (r 7)] ∧ (Lit.int .i64 id).wf = true ∧ (Lit.int .i64 par).wf = true := by
  obtain ⟨cs, rfl, hs, hc⟩ := agg_cells (ts := [3, 3, 51, 52, 3, 3, 3, 3, 3, 3, 3, 3, 3]) Try.underlying55 rfl (by kernel_rfl) (by kernel_rfl) hok
  obtain ⟨x0, e0, c0⟩ := hc 0 _ rfl
  obtain ⟨x1, e1, c1⟩ := hc 1 _ rfl
  obtain ⟨x2, e2, _⟩ := hc 2 _ rfl
  obtain ⟨x3, e3, _⟩ := hc 3 _ rfl
  obtain ⟨x4, e4, c4⟩ := hc 4 _ rfl
  obtain ⟨id, rfl, wid⟩ := cell_int Try.underlying3 c0
  obtain ⟨kind, rfl, _⟩ := cell_int Try.underlying3 c1
  obtain ⟨par, rfl, wpar⟩ := cell_int Try.underlying3 c4
  have key : ∀ j, ∃ y : Int, j < 8 → cs[5 + j]? = some (.int .i64 y) := fun j => by
    by_cases hj : j < 8
    · obtain ⟨x, e, c⟩ := hc (5 + j) 3 (by
        match j, hj with
        | 0, _ => rfl
        | 1, _ => rfl
        | 2, _ => rfl
        | 3, _ => rfl
        | 4, _ => rfl
        | 5, _ => rfl
        | 6, _ => rfl
        | 7, _ => rfl)
      obtain ⟨y, rfl, _⟩ := cell_int Try.underlying3 c
      exact ⟨y, fun _ => e⟩
    · exact ⟨0, fun h => absurd h hj⟩
  obtain ⟨r, hr⟩ := Classical.axiomOfChoice key
  refine ⟨id, kind, par, x2, x3, r, ?_, wid, wpar⟩
  congr 1
  apply Array.ext_getElem?
  intro i
  match i with
  | 0 => exact e0
  | 1 => exact e1
  | 2 => exact e2
  | 3 => exact e3
  | 4 => exact e4
  | 5 => exact hr 0 (by omega)
  | 6 => exact hr 1 (by omega)
  | 7 => exact hr 2 (by omega)
  | 8 => exact hr 3 (by omega)
  | 9 => exact hr 4 (by omega)
  | 10 => exact hr 5 (by omega)
  | 11 => exact hr 6 (by omega)
  | 12 => exact hr 7 (by omega)
  | j + 13 =>
    simp at hs
    rw [Array.getElem?_eq_none (by omega), Array.getElem?_eq_none (by simp)]
set_option maxRecDepth 100000 in
theorem arg_nodeK {v : Value} {d : DataW H} {p : List MemPlace} (hok : Value.okWide Try.prog W .any base 55 v) (_h : DataW.Trod enc Try.prog W 0 (fun _ => true) true 55 v d p) :
    ∃ (id kind par : Int) (u2 u3 : Value) (r : Nat → Int), v = .agg #[.int .i64 id, .int .i64 kind, u2, u3, .int .i64 par, .int .i64 (r 0), .int .i64 (r 1), .int .i64 (r 2), .int .i64 (r 3), .int .i64 (r 4), .int .i64 (r 5), .int .i64 (r 6), .int .i64 (r 7)] ∧ (Lit.int .i64 id).wf = true ∧ (Lit.int .i64 par).wf = true := node_okK hok
end Go.Proofs.Ytdkdhhfejbecdaa
