/- The document's example of package align, and what is nil. -/
import Derived.Test.YtkmpcddhbdndkaaAlignB
namespace Go.Proofs.Ytkmpcddhbdndkaa
open Go.RowKit Go.Fb
theorem it_cells {w : World} {g t : Nat} {b : Bool} {k re im ep : Int} {p : Bool} (h : Blk w g t (It b k re im ep p)) :
    w.cell? ⟨g, 0, none⟩ = some (.bool b) ∧ w.cell? ⟨g, 1, none⟩ = some (.int .i64 k) ∧ w.cell? ⟨g, 2, none⟩ = some (.int .i64 re) ∧ w.cell? ⟨g, 3, none⟩ = some (.int .i64 im) ∧ w.cell? ⟨g, 4, none⟩ = some (.int .i64 ep) ∧ w.cell? ⟨g, 5, none⟩ = some (.bool p) :=
  ⟨h.cell 0, h.cell 1, h.cell 2, h.cell 3, h.cell 4, h.cell 5⟩
set_option maxRecDepth 100000 in
theorem awake19 (w : World) : Calls Try.prog 39 #[] w fun e w' => e = .returned (.bool true) ∧ Fr w.heap.size [] w w' := by
  go_enter Try.func39, Try.ntmps39
  go_wp2_with fail
  refine (anew_yes 2 _ (by decide)).mono ?_
  rintro e w1 ⟨rfl, a1, f1⟩
  have A1 := Lib.hid a1
  have F1 := Lib.hid f1
  have l1 := a1.st.lt
  clear a1 f1
  generalize hg : w.heap.size + 1 = g at *
  generalize hgb : w.heap.size = gb at *
  have hgg : gb < g := by omega
  clear hg
  have HG := Lib.hid hgb
  clear hgb
  go_wp2_with fail
  have fb1 : Fr w1.heap.size [] w1 (w1.alloc (.cells (It true 0 0 0 4 false) 70)) := (Fr.refl _ _ _).alloc (Nat.le_refl _) _
  have b1 : Blk (w1.alloc (.cells (It true 0 0 0 4 false) 70)) w1.heap.size 70 (It true 0 0 0 4 false) := Blk.new _ _ _
  generalize hw2 : w1.alloc (.cells (It true 0 0 0 4 false) 70) = w2 at *
  refine (block_ok (A1.out.fr0 fb1) 1 rfl 0 0 0 4 false (.inl (by decide)) (by decide) (by decide)).mono ?_
  rintro e w3 ⟨rfl, a3, f3⟩
  have f3' := (F1.out.trans ((fb1.mono (B' := gb) (L' := []) (by omega) (by simp)))).mono (B' := gb) (L' := [g, gb]) (Nat.le_refl _) (by simp)
  have F3 := Lib.hid (f3'.trans (f3.mono (B' := gb) (L' := [g, gb]) (by have := fb1.size; omega) (fun _ h _ => h)))
  have l2 : w1.heap.size < w2.heap.size := b1.lt
  have B3 := Lib.hid (b1.fr f3 l2 (by simp; omega))
  have l3 : w1.heap.size < w3.heap.size := B3.out.lt
  have a3' : Al w3 g gb [false, true] true 4 false 1 1 := a3
  have A3 := Lib.hid a3'
  clear a3' a3 f3 f3' b1 fb1 hw2
  generalize w1.heap.size = gi at *
  go_wp2_with fail
  refine (met_no A3.out rfl).mono ?_
  rintro e w4 ⟨rfl, f4⟩
  have F4 := Lib.hid f4
  have l4 := f4.size
  have B4 := Lib.hid (B3.out.fr f4 l3 (by simp))
  obtain ⟨c0, c1, c2, c3, c4, c5⟩ := it_cells B4.out
  have l4' := B4.out.lt
  have fb4 := Lib.hid ((Fr.refl w4.heap.size [] w4).alloc (Nat.le_refl _) (.cells It0 70))
  have A4 := Lib.hid ((A3.out.fr0 f4).fr0 fb4.out)
  have F5 := Lib.hid ((F3.out.trans (f4.mono (B' := gb) (L' := [g, gb]) (by omega) (by simp))).trans (fb4.out.mono (B' := gb) (L' := [g, gb]) (by omega) (by simp)))
  have B5 := Lib.hid (B4.out.fr fb4.out B4.out.lt (by simp))
  clear f4
  go_wp2_with fail
  clear c0 c1 c2 c3 c4 c5
  generalize w4.alloc _ = w5 at *
  refine (block_ok A4.out 0 rfl 0 0 0 4 false (.inr ⟨rfl, rfl, rfl⟩) (by decide) (by decide)).mono ?_
  rintro e w6 ⟨rfl, a6, f6⟩
  have a6' : Al w6 g gb [true, true] true 4 false 2 1 := a6
  have l5 := B5.out.lt
  have F6 := Lib.hid (F5.out.trans (f6.mono (B' := gb) (L' := [g, gb]) (by have := A4.out.bl.lt; omega) (fun _ h _ => h)))
  have B6 := Lib.hid (B5.out.fr f6 l5 (by simp; omega))
  have A6 := Lib.hid a6'
  clear a6 a6' f6 l5
  go_wp2_with fail
  refine (met_yes A6.out rfl).mono ?_
  rintro e w7 ⟨rfl, f7⟩
  have l6 := B6.out.lt
  have B7 := Lib.hid (B6.out.fr f7 l6 (by simp))
  have F7 := Lib.hid (F6.out.trans (f7.mono (B' := gb) (L' := [g, gb]) (by have := A6.out.bl.lt; omega) (by simp)))
  have l7 := B7.out.lt
  obtain ⟨c0, c1, c2, c3, c4, c5⟩ := it_cells B7.out
  clear f7
  go_wp2_with fail
  go_ret
  have hw := HG.out
  exact ⟨rfl, (F7.out.mono (B' := w.heap.size) (L' := []) (by omega) (fun k hk hlt => by simp at hk; omega)).alloc (by have := F7.out.size; omega) _⟩
end Go.Proofs.Ytkmpcddhbdndkaa
