/- The contracts of package align, third part: cleared, open, picked. -/
import Derived.Test.YtkmkdodhahcpdaaAlignC
import Derived.Test.YtkmkdodhahcpdaaRouteB
namespace Go.Proofs.Ytkmkdodhahcpdaa
open Go.RowKit Go.Fb
section
variable {w : World} {g gb : Nat} {bs : List Bool} {b : Bool} {ep : Int} {p : Bool} {many last : Int}
theorem clear_step {n : Nat} {a0 a1 a2 a3 a4 a5 a7 : Value} (hs : Blk w g 106 #[a0, a1, a2, a3, a4, a5, .slice (some ⟨gb, 0, none⟩) n n, a7, .int .i64 last]) (hb : Blk w gb 4 ((List.replicate n false).map Value.bool).toArray) (hne : g ≠ gb) :
    Al (set6 (w.setCell ⟨g, 7, none⟩ (.int .i64 0)) g (.bool false) (.int .i64 0) (.int .i64 0) (.int .i64 0) (.int .i64 0) (.bool false)) g gb (List.replicate n false) false 0 false 0 last := by
  have h7 := hs.set_ 7 (.int .i64 0)
  simp only [List.setIfInBounds_toArray, List.set_cons_succ, List.set_cons_zero] at h7
  have h6 := blk_set6 h7 (.bool false) (.int .i64 0) (.int .i64 0) (.int .i64 0) (.int .i64 0) (.bool false)
  have b6 := blk_far6 (hb.far (p := ⟨g, 7, none⟩) hne.symm (.int .i64 0)) hne.symm (.bool false) (.int .i64 0) (.int .i64 0) (.int .i64 0) (.int .i64 0) (.bool false)
  exact ⟨by simpa using h6, b6⟩
set_option maxRecDepth 100000 in
theorem clear_any (h : Al w g gb bs b ep p many last) : Calls Try.prog 35 #[.pointer (some ⟨g, 0, none⟩)] w fun e w' =>
    e = .returned (.tuple #[]) ∧ Al w' g gb (List.replicate bs.length false) false 0 false 0 last ∧ Fr w.heap.size [g, gb] w w' := by
  obtain ⟨w1, hr, hb1, hf1, ho1⟩ := run_clear_bools h.bl 0
  have hs1 : Blk w1 g 106 _ := (ho1 g h.ne).trans h.st
  have H1 := Lib.hid hs1
  have HB := Lib.hid hb1
  have HF := Lib.hid hf1
  have hlt := h.st.lt
  have hne := h.ne
  have hc6 := h.st.cell 6
  have hz := hf1.size
  have hlt1 := hs1.lt
  have k0 := hs1.cell 0
  have k1 := hs1.cell 1
  have k2 := hs1.cell 2
  have k3 := hs1.cell 3
  have k4 := hs1.cell 4
  have k5 := hs1.cell 5
  have k7 := hs1.cell 7
  have f0 := hs1.frozen 0
  have f1 := hs1.frozen 1
  have f2 := hs1.frozen 2
  have f3 := hs1.frozen 3
  have f4 := hs1.frozen 4
  have f5 := hs1.frozen 5
  have f7 := hs1.frozen 7
  clear hs1 hb1 hf1 ho1 h
  generalize hn : bs.length = n at *
  clear hn
  go_enter Try.func35, Try.ntmps35
  go_wp2_with fail
  go_end0
  exact ⟨rfl, clear_step H1.out HB.out hne, fr_set6 ((HF.out.mono (L' := [g, gb]) (Nat.le_refl _) (by simp)).setCell (p := ⟨g, 7, none⟩) (.inr (by simp)) _) (.inr (by simp)) _ _ _ _ _ _⟩
end
end Go.Proofs.Ytkmkdodhahcpdaa
