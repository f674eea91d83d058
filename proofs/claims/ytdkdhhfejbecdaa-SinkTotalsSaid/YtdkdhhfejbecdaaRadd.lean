/- The contract of forebayref03.Add. -/
import Derived.Test.YtdkdhhfejbecdaaAdd
import Derived.StillTailTactics
namespace Go.Proofs.Ytdkdhhfejbecdaa
open Go.RowKit Go.Fb
theorem refinto_back (n c : Int) (h : c = cen n) (w : World) : Calls Try.prog 59 #[.int .i64 n] w fun e w' => e = .returned (.int .i64 c) ∧ w' = w := by
  rw [h]
  exact (refinto_any n w).mono fun _ _ ⟨h1, h2⟩ => ⟨h1, h2.symm⟩
set_option maxRecDepth 100000 in
set_option maxHeartbeats 2000000 in
theorem refadd_any (x y : Int × Int) (w : World) : Calls Try.prog 18 #[.agg #[.int .i64 x.1, .int .i64 x.2], .agg #[.int .i64 y.1, .int .i64 y.2]] w fun e w' => e = .returned (.agg #[.int .i64 (addV x y).1, .int .i64 (addV x y).2]) ∧ Fr w.heap.size [] w w' := by
  obtain ⟨a, b⟩ := x
  obtain ⟨c, d⟩ := y
  unfold addV
  simp only
  obtain ⟨a', ha⟩ : ∃ r, r = cen a := ⟨_, rfl⟩
  obtain ⟨b', hb⟩ : ∃ r, r = cen b := ⟨_, rfl⟩
  obtain ⟨c', hc⟩ : ∃ r, r = cen c := ⟨_, rfl⟩
  obtain ⟨d', hd⟩ : ∃ r, r = cen d := ⟨_, rfl⟩
  have CA := Lib.hid (refinto_back a a' ha)
  have CB := Lib.hid (refinto_back b b' hb)
  have CC := Lib.hid (refinto_back c c' hc)
  have CD := Lib.hid (refinto_back d d' hd)
  have hw1 : IntKind.i64.wrap (a' + c') = a' + c' := by rw [IntKind.wrap_i64]; have := cen_small a; have := cen_small c; omega
  have hw2 : IntKind.i64.wrap (b' + d') = b' + d' := by rw [IntKind.wrap_i64]; have := cen_small b; have := cen_small d; omega
  rw [← ha, ← hb, ← hc, ← hd]
  clear ha hb hc hd
  have HOF := Lib.hid (refof_any (a' + c') (b' + d'))
  generalize cen (a' + c') = e1 at *
  generalize cen (b' + d') = e2 at *
  have B1 := Lib.hid (((Blk.new w 32 #[.int .i64 a, .int .i64 b]).alloc (.cells #[.int .i64 c, .int .i64 d] 32)).alloc (.cells #[.int .i64 0, .int .i64 0] 32))
  have B2 := Lib.hid ((Blk.new (w.alloc (.cells #[.int .i64 a, .int .i64 b] 32)) 32 #[.int .i64 c, .int .i64 d]).alloc (.cells #[.int .i64 0, .int .i64 0] 32))
  have B3 := Lib.hid (Blk.new ((w.alloc (.cells #[.int .i64 a, .int .i64 b] 32)).alloc (.cells #[.int .i64 c, .int .i64 d] 32)) 32 #[.int .i64 0, .int .i64 0])
  have F := Lib.hid ((((Fr.refl w.heap.size [] w).alloc (Nat.le_refl _) (.cells #[.int .i64 a, .int .i64 b] 32)).alloc (by simp) (.cells #[.int .i64 c, .int .i64 d] 32)).alloc (by simp; omega) (.cells #[.int .i64 0, .int .i64 0] 32))
  go_enter Try.func18, Try.ntmps18
  go_upto_region 1 with fail
  simp only [World.size_alloc] at B2 B3 ⊢
  generalize ((w.alloc _).alloc _).alloc _ = w1 at *
  have a0 := B1.out.cell 0
  have a1 := B1.out.cell 1
  have b0 := B2.out.cell 0
  have b1 := B2.out.cell 1
  simp at a0 a1 b0 b1
  have B3 := Lib.hid B3.out.drew
  have F := Lib.hid F.out.drew
  clear B1 B2
  refine wp_region_still_tail 14 (by kernel_rfl) (by kernel_rfl) ?_
  simp only [List.take_succ_cons, List.take_zero, List.drop_succ_cons, List.drop_zero]
  still_step
  still_step
  still_call (CA.out _)
  still_step
  still_step
  still_call (CC.out _)
  still_step
  still_step
  still_step
  still_call (CB.out _)
  still_step
  still_step
  still_call (CD.out _)
  still_step
  refine wpStill_nil ?_
  change wpList _ _ _ _ _ w1.drew
  go_wp2_with fail
  refine (HOF.out _).mono ?_
  rintro e w' ⟨rfl, hf⟩
  have B4 := Lib.hid (B3.out.fr hf B3.out.lt (by simp))
  have F4 := Lib.hid (F.out.trans (hf.mono (B' := w.heap.size) (L' := []) F.out.size (by simp)))
  have z0 := B4.out.frozen 0
  have z1 := B4.out.frozen 1
  have q0 := B4.out.cell 0
  have q1 := B4.out.cell 1
  simp at q0 q1
  clear hf a0 a1 b0 b1 B3 F
  go_wp2_with fail
  have B5 := Lib.hid (show Blk _ _ _ #[.int .i64 e1, .int .i64 e2] from by have := (B4.out.set_ 0 (.int .i64 e1)).set_ 1 (.int .i64 e2); simpa using this)
  have F5 := Lib.hid ((F4.out.setCell (p := ⟨w.heap.size + 1 + 1, 0, none⟩) (.inl (by simp; omega)) (.int .i64 e1)).setCell (p := ⟨w.heap.size + 1 + 1, 1, none⟩) (.inl (by simp; omega)) (.int .i64 e2))
  exact bodyPost_ret (results_cell_row rfl _ _ (w.heap.size + 1 + 1) 32 #[.int .i64 e1, .int .i64 e2] (0, 0) _ rfl B5.out Try.underlying32 rfl (by kernel_rfl)) rfl ⟨rfl, F5.out⟩
end Go.Proofs.Ytdkdhhfejbecdaa
