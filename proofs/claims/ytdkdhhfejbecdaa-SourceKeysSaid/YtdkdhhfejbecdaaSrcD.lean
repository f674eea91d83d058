/- A source that is not there; the document's example. -/
import Derived.Test.YtdkdhhfejbecdaaSrcC
namespace Go.Proofs.Ytdkdhhfejbecdaa
open Go.RowKit Go.Fb
theorem sappend_nil (v : Value) (w : World) : Calls Try.prog 29 #[.pointer none, v] w fun e w' => e = .returned (.tuple #[.int .i64 0, .int .i64 1]) ∧ w = w' := by
  go_enter Try.func29, Try.ntmps29
  go_wp2_with fail
  go_ret2
  exact ⟨rfl, rfl⟩
set_option maxRecDepth 100000 in
theorem snext_nil (w : World) : Calls Try.prog 105 #[.pointer none, .int .i64 0] w fun e w' => e = .returned (.tuple #[.agg rec0, .bool false]) ∧ Fr w.heap.size [] w w' := by
  go_enter Try.func105, Try.ntmps105
  go_wp2_with fail
  go_quiet (fail)
  go_wp2_with fail
  exact bodyPost_ret (results_row_tmp rfl _ _ w.heap.size 64 rec0 (0, 0) _ rfl (show Blk (set3 ((w.alloc (.cells rec0 64)).drewN nq) w.heap.size (.int .i64 0) (.int .i64 0) (.int .i64 0)) _ _ _ from blk_set3 ((Blk.new w 64 rec0).drewN nq) _ _ _) Try.underlying64 rfl (by kernel_rfl)) rfl ⟨rfl, fr_set3 (((Fr.refl _ _ w).alloc (Nat.le_refl _) _).drewN nq) (.inl (Nat.le_refl _)) _ _ _⟩
set_option maxRecDepth 100000 in
theorem sread_nil (w : World) : Calls Try.prog 67 #[.pointer none, .int .i64 0] w fun e w' => e = .returned (.tuple #[.agg rec0, .bool false]) ∧ Fr w.heap.size [] w w' := by
  have f0 := (Fr.refl w.heap.size [] w).alloc (Nat.le_refl _) (.cells rec0 64)
  have b0 := Blk.new w 64 rec0
  go_enter Try.func67, Try.ntmps67
  go_wp2_with fail
  generalize w.alloc _ = w1 at *
  refine (snext_nil w1).mono ?_
  rintro e w2 ⟨rfl, f2⟩
  have B2 := Lib.hid (b0.fr f2 b0.lt (by simp))
  have F2 := Lib.hid (f0.trans (f2.mono f0.size (by simp)))
  clear f0 b0 f2
  have c0 := B2.out.cell 0
  have c1 := B2.out.cell 1
  have c2 := B2.out.cell 2
  have y0 := B2.out.frozen 0
  have y1 := B2.out.frozen 1
  have y2 := B2.out.frozen 2
  have l3 := B2.out.lt
  simp at c0 c1 c2
  go_wp2_with fail
  exact bodyPost_ret (results_row_tmp rfl _ _ w.heap.size 64 rec0 (0, 0) _ rfl ((blk_set3 B2.out (.int .i64 0) (.int .i64 0) (.int .i64 0)).alloc (.cells rec0 64)) Try.underlying64 rfl (by kernel_rfl)) rfl ⟨rfl, (fr_set3 F2.out (.inl (Nat.le_refl _)) _ _ _).alloc (by have := F2.out.size; unfold set3; simp [World.setCell] at this ⊢; omega) _⟩
theorem sseek_nil (v : Value) (w : World) : Calls Try.prog 68 #[.pointer none, v] w fun e w' => e = .returned (.int .i64 1) ∧ w = w' := by
  go_enter Try.func68, Try.ntmps68
  go_wp2_with fail
  go_ret
  exact ⟨rfl, rfl⟩
theorem seach_nil (v : Value) (w : World) : Calls Try.prog 109 #[.pointer none, v] w fun e w' => e = .returned (.slice none 0 0) ∧ w = w' := by
  go_enter Try.func109, Try.ntmps109
  go_wp2_with fail
  go_ret
  exact ⟨rfl, rfl⟩
theorem slens_nil (w : World) : Calls Try.prog 73 #[.pointer none] w fun e w' => e = .returned (.slice none 0 0) ∧ w = w' := by
  go_enter Try.func73, Try.ntmps73
  go_wp2_with fail
  refine (seach_nil _ _).mono ?_
  rintro e w' ⟨rfl, rfl⟩
  go_wp2_with fail
  go_ret
  exact ⟨rfl, rfl⟩
theorem sbetween_nil (u v : Value) (w : World) : Calls Try.prog 108 #[.pointer none, u, v] w fun e w' => e = .returned (.slice none 0 0) ∧ w = w' := by
  go_enter Try.func108, Try.ntmps108
  go_wp2_with fail
  go_ret
  exact ⟨rfl, rfl⟩
theorem supto_nil (v : Value) (w : World) : Calls Try.prog 72 #[.pointer none, v] w fun e w' => e = .returned (.slice none 0 0) ∧ w = w' := by
  go_enter Try.func72, Try.ntmps72
  go_wp2_with fail
  refine (sbetween_nil _ _ _).mono ?_
  rintro e w' ⟨rfl, rfl⟩
  go_wp2_with fail
  go_ret
  exact ⟨rfl, rfl⟩
def rx : Nat → Int := fun j => [3, 0, 0].getD j 0
set_option maxRecDepth 100000 in
set_option maxHeartbeats 1000000 in
theorem awake18 (w : World) : Calls Try.prog 27 #[] w fun e w' => e = .returned (.bool true) ∧ Fr w.heap.size [] w w' := by
  go_enter Try.func27, Try.ntmps27
  go_wp2_with fail
  refine (snew1 _).mono ?_
  rintro e w1 ⟨gs, gp, rfl, s1, f1⟩
  have S1 := Lib.hid s1
  have F1 := Lib.hid f1
  clear s1 f1
  go_wp2_with fail
  have fa := (Fr.refl w1.heap.size [] w1).alloc (Nat.le_refl _) (.cells #[.int .i64 3, .int .i64 0, .int .i64 0] 64)
  have ba := Blk.new w1 64 #[.int .i64 3, .int .i64 0, .int .i64 0]
  have hlow := S1.out.low
  have hgp1 := S1.out.pt.lt
  generalize w1.alloc _ = w2 at *
  have hra : Reads w2 (w1.heap.size + 1) 3 (some ⟨w1.heap.size, 0, none⟩) 1 (cellsR [rx]) := Reads.of_blk ba rfl
  have happ := append1 (S1.out.keep fa) (by have := F1.out.size; have := fa.size; omega) [rx] (some ⟨w1.heap.size, 0, none⟩) 1 (by simp) (hra.more ba.lt) (fun _ ad e => by
    injection e with e
    subst e
    exact ⟨by show w1.heap.size ≠ gp; omega, by simp [Value.ownBlock]⟩)
  have F2 := Lib.hid (F1.out.trans (fa.mono F1.out.size (by simp)))
  clear fa ba hra
  refine happ.mono ?_
  rintro e w3 ⟨V, rfl, s3, f3, hv⟩
  have hg : goodN [rx] = 1 := rfl
  rw [hg] at s3 ⊢
  have S3 : RowKit.Hid (Sr w.heap.size gs gp [rx] ((0 : Nat) : Int) V w3) := s3
  have F3 : RowKit.Hid (Fr w.heap.size [] w w3) := F2.out.trans (f3.mono F2.out.size (fun k hk hlt => by simp [Value.ownBlock] at hk; omega))
  clear s3 f3 hv happ hg S1 F1 F2
  go_wp2_with fail
  refine (read1 S3.out (by simp) (x := rx) rfl).mono ?_
  rintro e w4 ⟨rfl, s4, f4⟩
  have S4 := Lib.hid s4
  have F4 : RowKit.Hid (Fr w.heap.size [] w w4) := F3.out.trans (f4.mono F3.out.size (fun k hk hlt => by simp at hk; omega))
  have hgp4 := S4.out.pt.lt
  have e0 : rx 0 = 3 := rfl
  have e1 : rx 1 = 0 := rfl
  have e2 : rx 2 = 0 := rfl
  clear s4 f4
  go_wp2_with fail
  have b5 := (Blk.new w4 64 #[.int .i64 3, .int .i64 0, .int .i64 0]).alloc (.cells #[.int .i64 0] 3)
  have i5 := Blk.new (w4.alloc (.cells #[.int .i64 3, .int .i64 0, .int .i64 0] 64)) 3 #[.int .i64 0]
  have f5 := ((Fr.refl w4.heap.size [] w4).alloc (Nat.le_refl _) (.cells #[.int .i64 3, .int .i64 0, .int .i64 0] 64)).alloc (by simp) (.cells #[.int .i64 0] 3)
  rw [show (w4.alloc (.cells #[.int .i64 3, .int .i64 0, .int .i64 0] 64)).heap.size = w4.heap.size + 1 by simp] at i5
  generalize (w4.alloc _).alloc _ = w5 at *
  have r5 : Reads w5 w5.heap.size 1 (some ⟨w4.heap.size + 1, 0, none⟩) 1 [.int .i64 ((0 : Nat) : Int)] := (Reads.of_blk i5 rfl).more i5.lt
  have hsk := seek1 (S4.out.keep f5) 0 (by simp) (some ⟨w4.heap.size + 1, 0, none⟩) 1 r5 (fun ad e => by
    injection e with e
    subst e
    show w4.heap.size + 1 ≠ gp
    omega)
  have F5 : RowKit.Hid (Fr w.heap.size [] w w5) := F4.out.trans (f5.mono F4.out.size (by simp))
  refine hsk.mono ?_
  rintro e w6 ⟨rfl, s6, f6⟩
  have S6 := Lib.hid s6
  have B6 := Lib.hid (b5.fr f6 b5.lt (by simp; omega))
  have F6 : RowKit.Hid (Fr w.heap.size [] w w6) := F5.out.trans (f6.mono F5.out.size (fun k hk hlt => by simp at hk; omega))
  clear s6 f6 hsk b5 i5 f5 r5 S3 S4 F3 F4
  go_wp2_with fail
  refine (read1 S6.out (by simp) (x := rx) rfl).mono ?_
  rintro e w7 ⟨rfl, s7, f7⟩
  have B7 := Lib.hid (B6.out.fr f7 B6.out.lt (by simp; omega))
  have F7 : RowKit.Hid (Fr w.heap.size [] w w7) := F6.out.trans (f7.mono F6.out.size (fun k hk hlt => by simp at hk; omega))
  have c0 := B7.out.cell 0
  have c1 := B7.out.cell 1
  have c2 := B7.out.cell 2
  have l7 := B7.out.lt
  simp at c0 c1 c2
  clear s7 f7
  go_wp2_with fail
  go_ret
  exact ⟨rfl, F7.out.alloc F7.out.size _⟩
end Go.Proofs.Ytdkdhhfejbecdaa
