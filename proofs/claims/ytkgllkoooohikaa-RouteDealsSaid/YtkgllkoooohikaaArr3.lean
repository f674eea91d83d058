/- Arrays of three ints, and of eight bools, by value. -/
import Derived.Test.YtkgllkoooohikaaArrEq
namespace Go.Proofs.Ytkgllkoooohikaa
open Go.RowKit Go.Fb

/-- The cells of an array of three ints; the array as a value. -/
abbrev C3 (r : Nat → Int) : Array Value := #[.int .i64 (r 0), .int .i64 (r 1), .int .i64 (r 2)]
abbrev A3 (r : Nat → Int) : Value := .agg (C3 r)
theorem C3_get (r : Nat → Int) {k : Nat} (h : k < 3) : (C3 r)[k]? = some (.int .i64 (r k)) := by
  match k, h with
  | 0, _ | 1, _ | 2, _ => rfl
theorem C3_congr {r r' : Nat → Int} (h : ∀ k, k < 3 → r k = r' k) : C3 r = C3 r' := by
  simp only [C3, h 0 (by omega), h 1 (by omega), h 2 (by omega)]
theorem C3_set (r : Nat → Int) {k : Nat} (h : k < 3) (v : Int) : (C3 r).setIfInBounds k (.int .i64 v) = C3 (fun j => if j = k then v else r j) := by
  match k, h with
  | 0, _ | 1, _ | 2, _ => rfl
/-- A block of three ints after all its cells were written. -/
def set3 (w : World) (g : Nat) (E : Nat → Int) : World :=
  ((w.setCell ⟨g, 0, none⟩ (.int .i64 (E 0))).setCell ⟨g, 1, none⟩ (.int .i64 (E 1))).setCell ⟨g, 2, none⟩ (.int .i64 (E 2))
theorem blk3_set1 {w : World} {g t : Nat} {r : Nat → Int} (h : Blk w g t (C3 r)) {k : Nat} (hk : k < 3) (v : Int) : Blk (w.setCell ⟨g, k, none⟩ (.int .i64 v)) g t (C3 fun j => if j = k then v else r j) := by
  rw [← C3_set r hk v]
  exact h.set_ k _
theorem blk_set3 {w : World} {g t : Nat} {r : Nat → Int} (h : Blk w g t (C3 r)) (E : Nat → Int) : Blk (set3 w g E) g t (C3 E) := by
  have h8 := blk3_set1 (blk3_set1 (blk3_set1 h (k := 0) (by omega) (E 0)) (k := 1) (by omega) (E 1)) (k := 2) (by omega) (E 2)
  rw [C3_congr (r' := E)] at h8
  · exact h8
  · intro k hk
    match k, hk with
    | 0, _ | 1, _ | 2, _ => rfl
theorem fr_set3 {B g : Nat} {L : List Nat} {a w : World} (h : Fr B L a w) (hg : B ≤ g ∨ g ∈ L) (E : Nat → Int) : Fr B L a (set3 w g E) :=
  ((h.setCell (p := ⟨g, 0, none⟩) hg _).setCell (p := ⟨g, 1, none⟩) hg _).setCell (p := ⟨g, 2, none⟩) hg _
theorem index3 (r : Nat → Int) {k : Nat} (h : k < 3) (w : World) : (Instr.index 66 (A3 r) (.int .i64 (k : Int))).run Try.prog w = .ok (.int .i64 (r k)) w := by
  obtain ⟨i, hi, hz, hsz, hby⟩ := info_parts intinfo
  exact run_index_arr Try.underlying66 Try.underlying3 hi hsz h (C3_get r h) w
theorem eq3 (r s : Nat → Int) (w : World) : (Op.equalIn 10000 66 (A3 r) (A3 s)).run Try.prog w = .ok ((List.range 3).all fun j => r j == s j) w := by
  obtain ⟨i, hi, hz, hsz, hby⟩ := info_parts intinfo
  rw [run_equalIn_array w 9999 _ _ Try.underlying66 hi]
  refine eqItems_int Try.underlying3 (by kernel_rfl) 9998 _ _ r s w _ (fun j hj => ?_)
  have hj8 : j < 3 := by simpa using hj
  exact ⟨C3_get r hj8, C3_get s hj8⟩
theorem eq3_self (r : Nat → Int) (w : World) : (Op.equalIn 10000 66 (A3 r) (A3 r)).run Try.prog w = .ok true w := by
  rw [eq3, List.all_eq_true.2 (fun j _ => by simp)]
/-- The cells of an array of eight bools. -/
abbrev CB8 (d : Nat → Bool) : Array Value := #[.bool (d 0), .bool (d 1), .bool (d 2), .bool (d 3), .bool (d 4), .bool (d 5), .bool (d 6), .bool (d 7)]
theorem CB8_get (d : Nat → Bool) {k : Nat} (h : k < 8) : (CB8 d)[k]? = some (.bool (d k)) := by
  match k, h with
  | 0, _ | 1, _ | 2, _ | 3, _ | 4, _ | 5, _ | 6, _ | 7, _ => rfl
theorem CB8_set (d : Nat → Bool) {k : Nat} (h : k < 8) (v : Bool) : (CB8 d).setIfInBounds k (.bool v) = CB8 (fun j => if j = k then v else d j) := by
  match k, h with
  | 0, _ | 1, _ | 2, _ | 3, _ | 4, _ | 5, _ | 6, _ | 7, _ => rfl
end Go.Proofs.Ytkgllkoooohikaa
