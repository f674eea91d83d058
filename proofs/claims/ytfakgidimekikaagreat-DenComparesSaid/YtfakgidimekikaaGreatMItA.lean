/- Texts merged into one, for the number of files a claim may have: ItemArg, LineArg. -/
import Derived.Test.YtfakgidimekikaaGreatMArgs
import Derived.Test.YtfakgidimekikaaGreatRows
namespace Go.Proofs.YtfakgidimekikaaGreat
open Go.RowKit Go.Fb
variable {W : World} {H : Type} {enc : TypeId × Value → H} {base : Nat}
theorem cell_bool {P : Program} {t : TypeId} {v : Value} (ht : P.underlying t = some .bool) (h : Cell.okWide P W .any base t v) : ∃ x, v = .bool x := by
  simp only [Cell.okWide, ht] at h
  cases v <;> simp only [Cell.ok, ht] at h
  exact ⟨_, rfl⟩
end Go.Proofs.YtfakgidimekikaaGreat
namespace Go.Proofs.YtfakgidimekikaaGreat
open Go.RowKit Go.Fb
variable {W : World} {H : Type} {enc : TypeId × Value → H} {base : Nat}
set_option maxRecDepth 100000 in
theorem arg_line {v : Value} {d : DataW H} {p : List MemPlace} (hok : Value.okWide Tryz.prog W .any base 26 v) (_h : DataW.Trod enc Tryz.prog W 0 (fun _ => true) true 26 v d p) :
    ∃ x : Nat → Int, v = .agg #[.int .i64 (x 0), .int .i64 (x 1), .int .i64 (x 2), .int .i64 (x 3), .int .i64 (x 4)] := by
  obtain ⟨cs, rfl, hs, hc⟩ := agg_cells (ts := [3, 3, 3, 3, 3]) Tryz.underlying26 rfl (by kernel_rfl) (by kernel_rfl) hok
  obtain ⟨x0, e0, c0⟩ := hc 0 _ rfl
  obtain ⟨x1, e1, c1⟩ := hc 1 _ rfl
  obtain ⟨x2, e2, c2⟩ := hc 2 _ rfl
  obtain ⟨x3, e3, c3⟩ := hc 3 _ rfl
  obtain ⟨x4, e4, c4⟩ := hc 4 _ rfl
  obtain ⟨a, rfl, wa⟩ := cell_int Tryz.underlying3 c0
  obtain ⟨b, rfl, wb⟩ := cell_int Tryz.underlying3 c1
  obtain ⟨c, rfl, wc⟩ := cell_int Tryz.underlying3 c2
  obtain ⟨d, rfl, wd⟩ := cell_int Tryz.underlying3 c3
  obtain ⟨e, rfl, we⟩ := cell_int Tryz.underlying3 c4
  refine ⟨fun j => [a, b, c, d, e].getD j 0, ?_⟩
  congr 1
  apply Array.ext_getElem?
  intro i
  match i with
  | 0 => exact e0
  | 1 => exact e1
  | 2 => exact e2
  | 3 => exact e3
  | 4 => exact e4
  | j + 5 =>
    simp at hs
    rw [Array.getElem?_eq_none (by omega), Array.getElem?_eq_none (by simp)]
end Go.Proofs.YtfakgidimekikaaGreat
