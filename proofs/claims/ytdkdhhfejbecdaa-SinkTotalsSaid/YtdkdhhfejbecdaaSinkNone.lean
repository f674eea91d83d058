/- The law SinkNone: a book that is not there. -/
import Derived.Test.YtdkdhhfejbecdaaBookC
namespace Go.Proofs.Ytdkdhhfejbecdaa
open Go.RowKit Go.Fb
set_option maxRecDepth 100000 in
theorem ncommit (e : Int) (S : Value) (w : World) : Calls Try.prog 15 #[.pointer none, .int .i64 e, S] w fun o w' => o = .returned (.int .i64 1) ∧ w = w' := by
  go_enter Try.func15, Try.ntmps15
  go_wp2_with fail
  go_ret
  exact ⟨rfl, rfl⟩
set_option maxRecDepth 100000 in
theorem nlines (w : World) : Calls Try.prog 22 #[.pointer none] w fun o w' => o = .returned (.slice none 0 0) ∧ w = w' := by
  go_enter Try.func22, Try.ntmps22
  go_wp2_with fail
  go_ret
  exact ⟨rfl, rfl⟩
set_option maxRecDepth 100000 in
theorem nepoch (w : World) : Calls Try.prog 24 #[.pointer none] w fun o w' => o = .returned (.int .i64 0) ∧ w = w' := by
  go_enter Try.func24, Try.ntmps24
  go_wp2_with fail
  go_ret
  exact ⟨rfl, rfl⟩
set_option maxRecDepth 100000 in
theorem nlen (w : World) : Calls Try.prog 26 #[.pointer none] w fun o w' => o = .returned (.int .i64 0) ∧ w = w' := by
  go_enter Try.func26, Try.ntmps26
  go_wp2_with fail
  go_ret
  exact ⟨rfl, rfl⟩
set_option maxRecDepth 100000 in
theorem nsince (e : Int) (w : World) : Calls Try.prog 21 #[.pointer none, .int .i64 e] w fun o w' => o = .returned (.slice none 0 0) ∧ w = w' := by
  go_enter Try.func21, Try.ntmps21
  go_wp2_with fail
  go_ret
  exact ⟨rfl, rfl⟩
set_option maxRecDepth 100000 in
theorem nof (a b c : Int) (w : World) : Calls Try.prog 25 #[.pointer none, .int .i64 a, .int .i64 b, .int .i64 c] w fun o w' => o = .returned (.slice none 0 0) ∧ w = w' := by
  go_enter Try.func25, Try.ntmps25
  go_wp2_with fail
  go_ret
  exact ⟨rfl, rfl⟩
set_option maxRecDepth 100000 in
theorem nlen64 (w : World) : Calls Try.prog 138 #[.int .u64 0] w fun o w' => o = .returned (.int .i64 0) ∧ w = w' := by
  go_enter Try.func138, Try.ntmps138
  go_wp2_with fail
  go_ret
  exact ⟨by kernel_rfl, rfl⟩
set_option maxRecDepth 100000 in
theorem nblen (w : World) : Calls Try.prog 101 #[.int .u64 0] w fun o w' => o = .returned (.int .i64 0) ∧ w = w' := by
  have H := Lib.hid nlen64
  go_enter Try.func101, Try.ntmps101
  go_wp2_with fail
  refine (H.out _).mono ?_
  rintro o w' ⟨rfl, rfl⟩
  go_wp2_with fail
  go_ret
  exact ⟨rfl, rfl⟩
set_option maxRecDepth 100000 in
theorem ninsord (w : World) : Calls Try.prog 141 #[.slice none 0 0, .int .i64 0, .int .i64 0] w fun o w' => o = .returned (.tuple #[]) ∧ w = w' := by
  go_enter Try.func141, Try.ntmps141
  go_wp2_with fail
  refine wp_loop_rounds 1 ?_
  rw [rounds_succ]
  go_wp2_with fail
  go_end0
  exact ⟨rfl, rfl⟩
set_option maxRecDepth 100000 in
theorem npdqord (w : World) : Calls Try.prog 111 #[.slice none 0 0, .int .i64 0, .int .i64 0, .int .i64 0] w fun o w' => o = .returned (.tuple #[]) ∧ w = w' := by
  have H := Lib.hid ninsord
  go_enter Try.func111, Try.ntmps111
  go_wp2_with fail
  refine wp_loop_rounds 1 ?_
  rw [rounds_succ]
  go_wp2_with fail
  refine (H.out _).mono ?_
  rintro o w' ⟨rfl, rfl⟩
  go_wp2_with fail
  exact bodyPost_ret (results_none rfl _ _ _) rfl ⟨rfl, rfl⟩
set_option maxRecDepth 100000 in
theorem nsort (w : World) : Calls Try.prog 74 #[.slice none 0 0] w fun o w' => o = .returned (.tuple #[]) ∧ w = w' := by
  have H := Lib.hid npdqord
  have HB := Lib.hid nblen
  go_enter Try.func74, Try.ntmps74
  go_wp2_with fail
  refine (HB.out _).mono ?_
  rintro o w' ⟨rfl, rfl⟩
  go_wp2_with fail
  refine (H.out _).mono ?_
  rintro o w' ⟨rfl, rfl⟩
  go_wp2_with fail
  go_end0
  exact ⟨rfl, rfl⟩
set_option maxRecDepth 100000 in
theorem ncompact (w : World) : Calls Try.prog 75 #[.slice none 0 0] w fun o w' => o = .returned (.slice none 0 0) ∧ w = w' := by
  go_enter Try.func75, Try.ntmps75
  go_wp2_with fail
  go_ret
  exact ⟨rfl, rfl⟩
set_option maxRecDepth 100000 in
theorem nsinks (w : World) : Calls Try.prog 34 #[.pointer none] w fun o w' => o = .returned (.slice none 0 0) ∧ w = w' := by
  have H := Lib.hid nlines
  have HS := Lib.hid nsort
  have HC := Lib.hid ncompact
  go_enter Try.func34, Try.ntmps34
  go_wp2_with fail
  refine (H.out _).mono ?_
  rintro o w' ⟨rfl, rfl⟩
  go_wp2_with fail
  refine wp_loop_rounds 1 ?_
  rw [rounds_succ]
  go_wp2_with fail
  refine (HS.out _).mono ?_
  rintro o w' ⟨rfl, rfl⟩
  go_wp2_with fail
  refine (HC.out _).mono ?_
  rintro o w' ⟨rfl, rfl⟩
  go_wp2_with fail
  go_ret
  exact ⟨rfl, rfl⟩
set_option maxRecDepth 100000 in
theorem ninscmp (F : Value) (w : World) : Calls Try.prog 129 #[.slice none 0 0, .int .i64 0, .int .i64 0, F] w fun o w' => o = .returned (.tuple #[]) ∧ w = w' := by
  go_enter Try.func129, Try.ntmps129
  go_wp2_with fail
  refine wp_loop_rounds 1 ?_
  rw [rounds_succ]
  go_wp2_with fail
  go_end0
  exact ⟨rfl, rfl⟩
set_option maxRecDepth 100000 in
theorem npdqcmp (F : Value) (w : World) : Calls Try.prog 100 #[.slice none 0 0, .int .i64 0, .int .i64 0, .int .i64 0, F] w fun o w' => o = .returned (.tuple #[]) ∧ w = w' := by
  have H := Lib.hid (ninscmp F)
  go_enter Try.func100, Try.ntmps100
  go_wp2_with fail
  refine wp_loop_rounds 1 ?_
  rw [rounds_succ]
  go_wp2_with fail
  refine (H.out _).mono ?_
  rintro o w' ⟨rfl, rfl⟩
  go_wp2_with fail
  exact bodyPost_ret (results_none rfl _ _ _) rfl ⟨rfl, rfl⟩
set_option maxRecDepth 100000 in
theorem nsortf (F : Value) (w : World) : Calls Try.prog 61 #[.slice none 0 0, F] w fun o w' => o = .returned (.tuple #[]) ∧ w = w' := by
  have H := Lib.hid (npdqcmp F)
  have HB := Lib.hid nblen
  go_enter Try.func61, Try.ntmps61
  go_wp2_with fail
  refine (HB.out _).mono ?_
  rintro o w' ⟨rfl, rfl⟩
  go_wp2_with fail
  refine (H.out _).mono ?_
  rintro o w' ⟨rfl, rfl⟩
  go_wp2_with fail
  go_end0
  exact ⟨rfl, rfl⟩
set_option maxRecDepth 100000 in
theorem ntotals (w : World) : Calls Try.prog 20 #[.pointer none] w fun o w' => o = .returned (.slice none 0 0) ∧ Fr w.heap.size [] w w' := by
  have H := Lib.hid nlines
  have HS := Lib.hid nsortf
  have hmm := @run_makeMap Try.prog
  have hb := heap_alloc_new w (.map #[] 0)
  have f1 := (Fr.refl w.heap.size [] w).alloc (Nat.le_refl _) (.map #[] 0)
  go_enter Try.func20, Try.ntmps20
  go_wp2_with fail
  refine (H.out _).mono ?_
  rintro o w' ⟨rfl, rfl⟩
  clear hmm
  generalize w.alloc (.map #[] 0) = w1 at *
  have hrg := run_range_map (P := Try.prog) w1 102 23 40 w.heap.size #[] 0 Try.underlying102 hb
  go_wp2_with fail
  refine wp_loop_rounds 1 ?_
  rw [rounds_succ]
  go_wp2_with fail
  have hb2 := (Below.heap_alloc w1 (.mapIter (some w.heap.size) 0 #[] 0) w.heap.size (by
    rcases Nat.lt_or_ge w.heap.size w1.heap.size with h | h
    · exact h
    · rw [Array.getElem?_eq_none h] at hb; cases hb)).trans hb
  have hnx : ∀ ty, (Instr.next (.pointer (some ⟨w1.heap.size, 0, none⟩)) false ty).run Try.prog (w1.alloc (.mapIter (some w.heap.size) 0 #[] 0)) = .ok (.tuple #[.bool false]) (w1.alloc (.mapIter (some w.heap.size) 0 #[] 0)) := fun ty => by
    rcases run_next_at (P := Try.prog) (w1.alloc (.mapIter (some w.heap.size) 0 #[] 0)) ty w1.heap.size w.heap.size 0 0 #[] #[] 0 (heap_alloc_new _ _) hb2 (by simp) (Nat.le_refl _) with ⟨_, h⟩ | ⟨e, he, _⟩
    · exact h
    · simp [leftOf] at he
  refine wp_loop_rounds 1 ?_
  rw [rounds_succ]
  go_wp2_with fail
  refine (HS.out _ _).mono ?_
  rintro o w' ⟨rfl, rfl⟩
  go_wp2_with fail
  go_ret
  exact ⟨rfl, f1.alloc f1.size _⟩
set_option maxRecDepth 100000 in
theorem walk_SinkNone (x : Nat → Int) (n : Int) (w : World) : Calls Try.prog 12 #[.agg (lnA x), .int .i64 n] w fun e w' => e = .returned (.bool true) ∧ Below w.heap.size w w' := by
  unfold lnA
  generalize x 0 = y0 at *
  generalize x 1 = y1 at *
  generalize x 2 = y2 at *
  generalize x 3 = y3 at *
  generalize x 4 = y4 at *
  go_enter Try.func12, Try.ntmps12
  go_wp2_with fail
  have hb := Blk.new w 93 #[.int .i64 y0, .int .i64 y1, .int .i64 y2, .int .i64 y3, .int .i64 y4]
  have b0 := (Below.refl _ w).alloc (Nat.le_refl _) (.cells #[.int .i64 y0, .int .i64 y1, .int .i64 y2, .int .i64 y3, .int .i64 y4] 93)
  generalize w.alloc _ = w1 at *
  refine (awake21 _).mono ?_
  rintro e w2 ⟨rfl, b1⟩
  have B2 := Lib.hid (hb.below b1 hb.lt)
  have BL2 := Lib.hid (b0.trans (b1.mono b0.size))
  clear hb b0 b1
  have q0 := B2.out.cell 0
  have q1 := B2.out.cell 1
  have q2 := B2.out.cell 2
  have q3 := B2.out.cell 3
  have q4 := B2.out.cell 4
  simp at q0 q1 q2 q3 q4
  go_wp2_with fail
  have BL3 := Lib.hid (BL2.out.alloc BL2.out.size (.cells #[.int .i64 y0, .int .i64 y1, .int .i64 y2, .int .i64 y3, .int .i64 y4] 93))
  clear q0 q1 q2 q3 q4 B2 BL2
  generalize w2.alloc _ = w3 at *
  refine (ncommit _ _ _).mono ?_
  rintro o w' ⟨rfl, rfl⟩
  go_wp2_with fail
  refine (nlines _).mono ?_
  rintro o w' ⟨rfl, rfl⟩
  go_wp2_with fail
  refine (nepoch _).mono ?_
  rintro o w' ⟨rfl, rfl⟩
  go_wp2_with fail
  refine (nlen _).mono ?_
  rintro o w' ⟨rfl, rfl⟩
  go_wp2_with fail
  refine (nsince _ _).mono ?_
  rintro o w' ⟨rfl, rfl⟩
  go_wp2_with fail
  refine (nof _ _ _ _).mono ?_
  rintro o w' ⟨rfl, rfl⟩
  go_wp2_with fail
  refine (nsinks _).mono ?_
  rintro o w' ⟨rfl, rfl⟩
  go_wp2_with fail
  refine (ntotals _).mono ?_
  rintro o w4 ⟨rfl, f4⟩
  have BL4 := Lib.hid (BL3.out.trans (f4.below.mono BL3.out.size))
  clear f4
  go_wp2_with fail
  go_ret
  exact ⟨rfl, BL4.out⟩
end Go.Proofs.Ytdkdhhfejbecdaa
