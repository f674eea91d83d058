/- Texts merged into one, for the number of files a claim may have: Build. -/
import Derived.Test.YthncfkpamokomaaMUnd
import Derived.Test.YthncfkpamokomaaMMrg
import Derived.Test.YthncfkpamokomaaMA
namespace Go.Proofs.Ythncfkpamokomaa
open Go.RowKit Go.Fb
set_option linter.unusedVariables false
def zS : Stp := ⟨0, zNd, false⟩
/-- The step that is told, or the zero one. -/
def saidS (r : Int) (s : Stp) : Stp := if r = 0 then s else zS
def TriedOut (r : Int) (s : Stp) (w : World) (e : Ending) (w' : World) : Prop := e = .returned (.tuple #[.agg (stV (saidS r s) (.slice none 0 0) (.slice none 0 0)), .int .i64 r]) ∧ Fr w.heap.size [] w w'
set_option maxRecDepth 100000 in
set_option maxHeartbeats 4000000 in
theorem tried_any (s : Stp) (h1 : s.nd.fr = []) (h2 : s.nd.pg = []) (A : Option Addr) (c B n : Nat) (M : List Ndm) (w : World) (h : Nds w B A n M) (hB : B ≤ w.heap.size) (hs : Small M) (hk : ∀ x ∈ fstN M, x.fr.length ≤ 1000 ∧ x.pg.length ≤ 1000) :
    Calls Try.prog 26 #[.slice A n c, .agg (stV s (.slice none 0 0) (.slice none 0 0))] w (TriedOut (stepN (fstN M) s).1 s w) := by
  have BS := Lib.hid ((Blk.new w 35 (stV s (.slice none 0 0) (.slice none 0 0))).alloc (.cells #[.int .i64 0, .int .i64 0, .int .i64 0, .slice none 0 0, .slice none 0 0, .int .i64 0, .int .i64 0, .int .i64 0, .int .i64 0, .int .i64 0, .int .i64 0, .int .i64 0, .int .i64 0, .int .i64 0, .bool false] 35))
  have b0 := Blk.new (w.alloc (.cells (stV s (.slice none 0 0) (.slice none 0 0)) 35)) 35 #[.int .i64 0, .int .i64 0, .int .i64 0, .slice none 0 0, .slice none 0 0, .int .i64 0, .int .i64 0, .int .i64 0, .int .i64 0, .int .i64 0, .int .i64 0, .int .i64 0, .int .i64 0, .int .i64 0, .bool false]
  rw [World.size_alloc] at b0
  have BO := Lib.hid b0
  have fa := ((Fr.refl w.heap.size [] w).alloc (Nat.le_refl _) (.cells (stV s (.slice none 0 0) (.slice none 0 0)) 35)).alloc (by simp) (.cells #[.int .i64 0, .int .i64 0, .int .i64 0, .slice none 0 0, .slice none 0 0, .int .i64 0, .int .i64 0, .int .i64 0, .int .i64 0, .int .i64 0, .int .i64 0, .int .i64 0, .int .i64 0, .int .i64 0, .bool false] 35)
  have FA := Lib.hid fa
  obtain ⟨wa, hwa⟩ : ∃ wa, wa = (w.alloc (.cells (stV s (.slice none 0 0) (.slice none 0 0)) 35)).alloc (.cells #[.int .i64 0, .int .i64 0, .int .i64 0, .slice none 0 0, .slice none 0 0, .int .i64 0, .int .i64 0, .int .i64 0, .int .i64 0, .int .i64 0, .int .i64 0, .int .i64 0, .int .i64 0, .int .i64 0, .bool false] 35) := ⟨_, rfl⟩
  rw [← hwa] at BS BO FA
  obtain ⟨sr, hsr⟩ : ∃ r, r = stepN (fstN M) s := ⟨_, rfl⟩
  have HPS := Lib.hid (by rw [hsr]; exact pstep_any A c B n M s (.slice none 0 0) (.slice none 0 0) wa (h.frw FA.out hB (by simp)) (Nat.le_trans hB FA.out.size) hs (nd_bare _ _ _ h1 h2) (by rw [h1]; simp) (by rw [h2]; simp) hk : Calls Try.prog 21 #[.slice A n c, .agg (stV s (.slice none 0 0) (.slice none 0 0))] wa (PStepOut sr wa))
  obtain ⟨r1, hr1⟩ : ∃ a, a = sr.1 := ⟨_, rfl⟩
  rw [← hsr, ← hr1]
  have HR1 := Lib.hid hr1
  have HWA := Lib.hid hwa
  clear h hs hk hsr hr1 fa b0 hwa
  go_enter Try.func26, Try.ntmps26
  go_upto_region 1 with fail
  rw [← HWA.out]
  obtain ⟨g, hg⟩ : ∃ g, g = w.heap.size := ⟨_, rfl⟩
  rw [← hg] at BS BO
  try rw [← hg]
  have HG := Lib.hid hg
  clear hg HWA
  have k0 := BS.out.cell 0
  have k1 := BS.out.cell 1
  have k2 := BS.out.cell 2
  have k3 := BS.out.cell 3
  have k4 := BS.out.cell 4
  have k5 := BS.out.cell 5
  have k6 := BS.out.cell 6
  have k7 := BS.out.cell 7
  have k8 := BS.out.cell 8
  have k9 := BS.out.cell 9
  have k10 := BS.out.cell 10
  have k11 := BS.out.cell 11
  have k12 := BS.out.cell 12
  have k13 := BS.out.cell 13
  have k14 := BS.out.cell 14
  simp at k0 k1 k2 k3 k4 k5 k6 k7 k8 k9 k10 k11 k12 k13 k14
  go_wp2_with fail
  refine HPS.out.mono ?_
  intro e w1 hq
  obtain ⟨A5, c5, n5, rfl, f1, _, _⟩ := step_uni hq
  have F1 := Lib.hid (FA.out.trans (f1.mono (B' := w.heap.size) (L' := []) FA.out.size (by simp)))
  have BS1 := Lib.hid (BS.out.fr f1 BS.out.lt (by simp))
  have BO1 := Lib.hid (BO.out.fr f1 BO.out.lt (by simp))
  rw [← HR1.out]
  clear hq f1 HPS BS BO FA k0 k1 k2 k3 k4 k5 k6 k7 k8 k9 k10 k11 k12 k13 k14
  have k0 := BS1.out.cell 0
  have k1 := BS1.out.cell 1
  have k2 := BS1.out.cell 2
  have k3 := BS1.out.cell 3
  have k4 := BS1.out.cell 4
  have k5 := BS1.out.cell 5
  have k6 := BS1.out.cell 6
  have k7 := BS1.out.cell 7
  have k8 := BS1.out.cell 8
  have k9 := BS1.out.cell 9
  have k10 := BS1.out.cell 10
  have k11 := BS1.out.cell 11
  have k12 := BS1.out.cell 12
  have k13 := BS1.out.cell 13
  have k14 := BS1.out.cell 14
  simp at k0 k1 k2 k3 k4 k5 k6 k7 k8 k9 k10 k11 k12 k13 k14
  have o0 := BO1.out.cell 0
  have o1 := BO1.out.cell 1
  have o2 := BO1.out.cell 2
  have o3 := BO1.out.cell 3
  have o4 := BO1.out.cell 4
  have o5 := BO1.out.cell 5
  have o6 := BO1.out.cell 6
  have o7 := BO1.out.cell 7
  have o8 := BO1.out.cell 8
  have o9 := BO1.out.cell 9
  have o10 := BO1.out.cell 10
  have o11 := BO1.out.cell 11
  have o12 := BO1.out.cell 12
  have o13 := BO1.out.cell 13
  have o14 := BO1.out.cell 14
  simp at o0 o1 o2 o3 o4 o5 o6 o7 o8 o9 o10 o11 o12 o13 o14
  have z0 := BO1.out.frozen 0
  have z1 := BO1.out.frozen 1
  have z2 := BO1.out.frozen 2
  have z3 := BO1.out.frozen 3
  have z4 := BO1.out.frozen 4
  have z5 := BO1.out.frozen 5
  have z6 := BO1.out.frozen 6
  have z7 := BO1.out.frozen 7
  have z8 := BO1.out.frozen 8
  have z9 := BO1.out.frozen 9
  have z10 := BO1.out.frozen 10
  have z11 := BO1.out.frozen 11
  have z12 := BO1.out.frozen 12
  have z13 := BO1.out.frozen 13
  have z14 := BO1.out.frozen 14
  by_cases e1 : r1 = 0
  · have E1 := Lib.hid e1
    subst e1
    go_wp2_with fail
    have be := blk_setL [.int .i64 s.kind, .int .i64 s.nd.id, .int .i64 s.nd.kind, .slice none 0 0, .slice none 0 0, .int .i64 s.nd.par, .int .i64 (s.nd.rt 0), .int .i64 (s.nd.rt 1), .int .i64 (s.nd.rt 2), .int .i64 (s.nd.rt 3), .int .i64 (s.nd.rt 4), .int .i64 (s.nd.rt 5), .int .i64 (s.nd.rt 6), .int .i64 (s.nd.rt 7), .bool s.rs] 0 BO1.out
    simp only [putL, List.setIfInBounds_toArray, List.set_cons_succ, List.set_cons_zero, Nat.reduceAdd] at be
    have fe := fr_setL (g := g + 1) (.inl (by have := HG.out; omega)) [.int .i64 s.kind, .int .i64 s.nd.id, .int .i64 s.nd.kind, .slice none 0 0, .slice none 0 0, .int .i64 s.nd.par, .int .i64 (s.nd.rt 0), .int .i64 (s.nd.rt 1), .int .i64 (s.nd.rt 2), .int .i64 (s.nd.rt 3), .int .i64 (s.nd.rt 4), .int .i64 (s.nd.rt 5), .int .i64 (s.nd.rt 6), .int .i64 (s.nd.rt 7), .bool s.rs] 0 F1.out
    exact bodyPost_ret (results_cell_row_tmp rfl _ _ (g + 1) 35 (stV (saidS 0 s) (.slice none 0 0) (.slice none 0 0)) (0, 0) _ rfl be Try.underlying35 rfl (by kernel_rfl)) rfl ⟨rfl, fe⟩
  · have hcb := kd_ne e1
    have hcn : (r1 != 0) = true := by simpa using e1
    have HSD := Lib.hid (show saidS r1 s = zS from if_neg e1)
    clear e1
    go_wp2_with fail
    have be := blk_setL [.int .i64 0, .int .i64 0, .int .i64 0, .slice none 0 0, .slice none 0 0, .int .i64 0, .int .i64 0, .int .i64 0, .int .i64 0, .int .i64 0, .int .i64 0, .int .i64 0, .int .i64 0, .int .i64 0, .bool false] 0 BO1.out
    simp only [putL, List.setIfInBounds_toArray, List.set_cons_succ, List.set_cons_zero, Nat.reduceAdd] at be
    have fe := fr_setL (g := g + 1) (.inl (by have := HG.out; omega)) [.int .i64 0, .int .i64 0, .int .i64 0, .slice none 0 0, .slice none 0 0, .int .i64 0, .int .i64 0, .int .i64 0, .int .i64 0, .int .i64 0, .int .i64 0, .int .i64 0, .int .i64 0, .int .i64 0, .bool false] 0 F1.out
    refine bodyPost_ret (results_cell_row_tmp rfl _ _ (g + 1) 35 (stV zS (.slice none 0 0) (.slice none 0 0)) (0, 0) _ rfl be Try.underlying35 rfl (by kernel_rfl)) rfl ?_
    unfold TriedOut
    rw [HSD.out]
    exact ⟨rfl, fe⟩
end Go.Proofs.Ythncfkpamokomaa
