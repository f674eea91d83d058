/- Arrays of eight ints by value. -/
import Derived.Test.YtddngibfhklnfaaRows
import Derived.Test.YtddngibfhklnfaaW
namespace Go.Proofs.Ytddngibfhklnfaa
open Go.RowKit Go.Fb

/-- The cells of an array of eight ints; the array as a value. -/
abbrev C8 (r : Nat → Int) : Array Value := #[.int .i64 (r 0), .int .i64 (r 1), .int .i64 (r 2), .int .i64 (r 3), .int .i64 (r 4), .int .i64 (r 5), .int .i64 (r 6), .int .i64 (r 7)]
abbrev A8 (r : Nat → Int) : Value := .agg (C8 r)
theorem C8_get (r : Nat → Int) {k : Nat} (h : k < 8) : (C8 r)[k]? = some (.int .i64 (r k)) := by
  match k, h with
  | 0, _ | 1, _ | 2, _ | 3, _ | 4, _ | 5, _ | 6, _ | 7, _ => rfl
theorem C8_congr {r r' : Nat → Int} (h : ∀ k, k < 8 → r k = r' k) : C8 r = C8 r' := by
  simp only [C8, h 0 (by omega), h 1 (by omega), h 2 (by omega), h 3 (by omega), h 4 (by omega), h 5 (by omega), h 6 (by omega), h 7 (by omega)]
theorem C8_set (r : Nat → Int) {k : Nat} (h : k < 8) (v : Int) : (C8 r).setIfInBounds k (.int .i64 v) = C8 (fun j => if j = k then v else r j) := by
  match k, h with
  | 0, _ | 1, _ | 2, _ | 3, _ | 4, _ | 5, _ | 6, _ | 7, _ => rfl
/-- A block of eight ints after all its cells were written. -/
def set8 (w : World) (g : Nat) (E : Nat → Int) : World :=
  (((((((w.setCell ⟨g, 0, none⟩ (.int .i64 (E 0))).setCell ⟨g, 1, none⟩ (.int .i64 (E 1))).setCell ⟨g, 2, none⟩ (.int .i64 (E 2))).setCell ⟨g, 3, none⟩ (.int .i64 (E 3))).setCell ⟨g, 4, none⟩ (.int .i64 (E 4))).setCell ⟨g, 5, none⟩ (.int .i64 (E 5))).setCell ⟨g, 6, none⟩ (.int .i64 (E 6))).setCell ⟨g, 7, none⟩ (.int .i64 (E 7))
theorem blk_set1 {w : World} {g t : Nat} {r : Nat → Int} (h : Blk w g t (C8 r)) {k : Nat} (hk : k < 8) (v : Int) : Blk (w.setCell ⟨g, k, none⟩ (.int .i64 v)) g t (C8 fun j => if j = k then v else r j) := by
  rw [← C8_set r hk v]
  exact h.set_ k _
theorem blk_set8 {w : World} {g t : Nat} {r : Nat → Int} (h : Blk w g t (C8 r)) (E : Nat → Int) : Blk (set8 w g E) g t (C8 E) := by
  have h8 := blk_set1 (blk_set1 (blk_set1 (blk_set1 (blk_set1 (blk_set1 (blk_set1 (blk_set1 h (k := 0) (by omega) (E 0)) (k := 1) (by omega) (E 1)) (k := 2) (by omega) (E 2)) (k := 3) (by omega) (E 3)) (k := 4) (by omega) (E 4)) (k := 5) (by omega) (E 5)) (k := 6) (by omega) (E 6)) (k := 7) (by omega) (E 7)
  rw [C8_congr (r' := E)] at h8
  · exact h8
  · intro k hk
    match k, hk with
    | 0, _ | 1, _ | 2, _ | 3, _ | 4, _ | 5, _ | 6, _ | 7, _ => rfl
theorem fr_set8 {B g : Nat} {L : List Nat} {a w : World} (h : Fr B L a w) (hg : B ≤ g ∨ g ∈ L) (E : Nat → Int) : Fr B L a (set8 w g E) :=
  (((((((h.setCell (p := ⟨g, 0, none⟩) hg _).setCell (p := ⟨g, 1, none⟩) hg _).setCell (p := ⟨g, 2, none⟩) hg _).setCell (p := ⟨g, 3, none⟩) hg _).setCell (p := ⟨g, 4, none⟩) hg _).setCell (p := ⟨g, 5, none⟩) hg _).setCell (p := ⟨g, 6, none⟩) hg _).setCell (p := ⟨g, 7, none⟩) hg _
theorem intinfo : (Try.prog.info? 3).map (fun i => (i.zero, i.size, i.bytes)) = some (some (.int .i64 0), 1, 8) := by kernel_rfl
theorem index8 (r : Nat → Int) {k : Nat} (h : k < 8) (w : World) : (Instr.index 36 (A8 r) (.int .i64 (k : Int))).run Try.prog w = .ok (.int .i64 (r k)) w := by
  obtain ⟨i, hi, hz, hsz, hby⟩ := info_parts intinfo
  exact run_index_arr Try.underlying36 Try.underlying3 hi hsz h (C8_get r h) w

/-- A result that lies in a row of cells, and one in a slot. -/
theorem results_cell_row_tmp {P : Program} {fn : Func} {p q : Tmp} {ty : TypeId} (h : fn.results = #[.cell p ty, .tmp q]) (tmps : Array Value) (w : World) (g : Nat) (t : TypeId) (cs : Array Value) (fr : Nat × Nat) (d : TypeDesc)
    (hp : tmps.getD p undef = .pointer (some ⟨g, 0, none⟩)) (hg : w.heap[g]? = some (.cells cs t fr))
    (hu : P.underlying ty = some d) (hd : (match d with | .struct _ | .array _ _ => true | _ => false) = true) (hi : (P.info? ty).map (·.size) = some cs.size) :
    (results fn tmps).run P w = .ok (.tuple #[.agg cs, tmps.getD q undef]) w := by
  have hp' : tmps[p]?.getD undef = .pointer (some ⟨g, 0, none⟩) := by simpa using hp
  simp [results, h, hp', asAddr, run_loadVar_row w g t ty cs fr d hg hu hd hi]
end Go.Proofs.Ytddngibfhklnfaa
