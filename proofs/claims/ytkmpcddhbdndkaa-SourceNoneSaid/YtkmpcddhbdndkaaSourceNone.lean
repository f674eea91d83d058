/- forebaylaw18.SourceNone. -/
import Derived.Test.YtkmpcddhbdndkaaSrcD
namespace Go.Proofs.Ytkmpcddhbdndkaa
open Go.RowKit Go.Fb
set_option maxRecDepth 100000 in
set_option maxHeartbeats 1000000 in
theorem walk_SourceNone (x : Nat → Int) (A : Option Addr) (n c : Nat) (hn : n ≤ maxLen) (w : World) :
    Calls Try.prog 5 #[.agg (recA x), .slice A n c] w fun e w' => e = .returned (.bool true) ∧ Below w.heap.size w w' := by
  unfold maxLen at hn
  have HA := Lib.hid awake18
  go_enter Try.func5, Try.ntmps5
  go_wp2_with fail
  have B0 := Lib.hid (Blk.new w 59 (recA x))
  have F0 := Lib.hid ((Fr.refl w.heap.size [] w).alloc (Nat.le_refl _) (.cells (recA x) 59))
  generalize w.alloc _ = w0 at *
  refine (HA.out _).mono ?_
  rintro e w1 ⟨rfl, f1⟩
  have B1 := Lib.hid (B0.out.fr f1 B0.out.lt (by simp))
  have F1 := Lib.hid (F0.out.trans (f1.mono F0.out.size (by simp)))
  clear f1
  by_cases hl : 60 < n
  · go_wp2_with fail
    go_ret
    exact ⟨rfl, F1.out.below⟩
  have c0 := B1.out.cell 0
  have c1 := B1.out.cell 1
  have c2 := B1.out.cell 2
  simp at c0 c1 c2
  go_wp2_with fail
  have F2 := Lib.hid (F1.out.alloc F1.out.size (.cells (recA x) 59))
  generalize w1.alloc _ = w2 at *
  refine (sappend_nil _ _).mono ?_
  rintro e w3 ⟨rfl, rfl⟩
  clear c0 c1 c2
  go_wp2_with fail
  refine (snext_nil _).mono ?_
  rintro e w4 ⟨rfl, f4⟩
  have F4 := Lib.hid (F2.out.trans (f4.mono F2.out.size (by simp)))
  clear f4
  go_wp2_with fail
  have b5 := Blk.new w4 59 rec0
  have F5 := Lib.hid (F4.out.alloc F4.out.size (.cells rec0 59))
  have l5 : w4.heap.size < (w4.alloc (.cells rec0 59)).heap.size := b5.lt
  generalize w4.alloc _ = w5 at *
  refine (sread_nil _).mono ?_
  rintro e w6 ⟨rfl, f6⟩
  have B6 := Lib.hid (b5.fr f6 b5.lt (by simp))
  have F6 := Lib.hid (F5.out.trans (f6.mono F5.out.size (by simp)))
  have l6 := B6.out.lt
  have c0 := B6.out.cell 0
  have c1 := B6.out.cell 1
  have c2 := B6.out.cell 2
  simp at c0 c1 c2
  clear b5 f6
  go_wp2_with fail
  refine (sseek_nil _ _).mono ?_
  rintro e w7 ⟨rfl, rfl⟩
  go_wp2_with fail
  refine (soffsets_nil _).mono ?_
  rintro e w7 ⟨rfl, rfl⟩
  go_wp2_with fail
  refine (slens_nil _).mono ?_
  rintro e w7 ⟨rfl, rfl⟩
  go_wp2_with fail
  refine (sleft_nil _).mono ?_
  rintro e w7 ⟨rfl, rfl⟩
  go_wp2_with fail
  refine (supto_nil _ _).mono ?_
  rintro e w7 ⟨rfl, rfl⟩
  go_wp2_with fail
  refine (sbetween_nil _ _ _).mono ?_
  rintro e w7 ⟨rfl, rfl⟩
  go_wp2_with fail
  go_ret
  exact ⟨rfl, (F6.out.alloc F6.out.size _).below⟩
end Go.Proofs.Ytkmpcddhbdndkaa
