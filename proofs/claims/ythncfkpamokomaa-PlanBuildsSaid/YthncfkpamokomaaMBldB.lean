/- Texts merged into one, for the number of files a claim may have: BuildB. -/
import Derived.Test.YthncfkpamokomaaMBld
namespace Go.Proofs.Ythncfkpamokomaa
open Go.RowKit Go.Fb
set_option linter.unusedVariables false
set_option maxRecDepth 100000 in
set_option maxHeartbeats 4000000 in
theorem rescale_any (id par : Int) (A : Option Addr) (c B n : Nat) (M : List Ndm) (w : World) (h : Nds w B A n M) (hB : B ≤ w.heap.size) (hs : Small M) (hk : ∀ x ∈ fstN M, x.fr.length ≤ 1000 ∧ x.pg.length ≤ 1000) :
    Calls Try.prog 9 #[.slice A n c, .int .i64 id, .int .i64 par] w (TriedOut (stepN (fstN M) (mvS id par (evenR par))).1 (mvS id par (evenR par)) w) := by
  have BO := Lib.hid (Blk.new w 35 #[.int .i64 0, .int .i64 0, .int .i64 0, .slice none 0 0, .slice none 0 0, .int .i64 0, .int .i64 0, .int .i64 0, .int .i64 0, .int .i64 0, .int .i64 0, .int .i64 0, .int .i64 0, .int .i64 0, .bool false])
  have FA := Lib.hid ((Fr.refl w.heap.size [] w).alloc (Nat.le_refl _) (.cells #[.int .i64 0, .int .i64 0, .int .i64 0, .slice none 0 0, .slice none 0 0, .int .i64 0, .int .i64 0, .int .i64 0, .int .i64 0, .int .i64 0, .int .i64 0, .int .i64 0, .int .i64 0, .int .i64 0, .bool false] 35))
  obtain ⟨wa, hwa⟩ : ∃ wa, wa = w.alloc (.cells #[.int .i64 0, .int .i64 0, .int .i64 0, .slice none 0 0, .slice none 0 0, .int .i64 0, .int .i64 0, .int .i64 0, .int .i64 0, .int .i64 0, .int .i64 0, .int .i64 0, .int .i64 0, .int .i64 0, .bool false] 35) := ⟨_, rfl⟩
  rw [← hwa] at BO FA
  obtain ⟨r1, hr1⟩ : ∃ a, a = (stepN (fstN M) (mvS id par (evenR par))).1 := ⟨_, rfl⟩
  obtain ⟨R, hR⟩ : ∃ R, R = evenR par := ⟨_, rfl⟩
  have HEV := Lib.hid (by rw [hR]; exact even_any par wa : Calls Try.prog 12 #[.int .i64 par] wa fun e w' => e = .returned (A8 R) ∧ Fr wa.heap.size [] wa w')
  have HMV := Lib.hid (fun (wx : World) => moved_any id par R wx)
  have HTR := Lib.hid (fun (wx : World) (hx : Fr w.heap.size [] w wx) => (by rw [hr1, hR]; exact tried_any (mvS id par (evenR par)) rfl rfl A c B n M wx (h.frw hx hB (by simp)) (Nat.le_trans hB hx.size) hs hk : Calls Try.prog 26 #[.slice A n c, .agg (stV (mvS id par R) (.slice none 0 0) (.slice none 0 0))] wx (TriedOut r1 (mvS id par R) wx)))
  rw [← hr1, ← hR]
  obtain ⟨g, hg⟩ : ∃ g, g = w.heap.size := ⟨_, rfl⟩
  have HG := Lib.hid hg
  rw [← hg] at BO
  have HWA := Lib.hid hwa
  clear h hs hk hr1 hR hg hwa
  go_enter Try.func9, Try.ntmps9
  go_upto_region 1 with fail
  rw [← HWA.out, ← HG.out]
  go_wp2_with fail
  refine HEV.out.mono ?_
  rintro e w1 ⟨rfl, f1⟩
  have F1 := Lib.hid (FA.out.trans (f1.mono (B' := w.heap.size) (L' := []) FA.out.size (by simp)))
  have BO1 := Lib.hid (BO.out.fr f1 BO.out.lt (by simp))
  clear f1 HEV FA BO
  go_wp2_with fail
  refine (HMV.out w1).mono ?_
  rintro e w2 ⟨rfl, f2⟩
  have F2 := Lib.hid (F1.out.trans (f2.mono (B' := w.heap.size) (L' := []) F1.out.size (by simp)))
  have BO2 := Lib.hid (BO1.out.fr f2 BO1.out.lt (by simp))
  clear f2 HMV F1 BO1
  go_wp2_with fail
  refine (HTR.out w2 F2.out).mono ?_
  rintro e w3 ⟨rfl, f3⟩
  have F3 := Lib.hid (F2.out.trans (f3.mono (B' := w.heap.size) (L' := []) F2.out.size (by simp)))
  have BO3 := Lib.hid (BO2.out.fr f3 BO2.out.lt (by simp))
  obtain ⟨X, hX⟩ : ∃ X, X = saidS r1 (mvS id par R) := ⟨_, rfl⟩
  have HX := Lib.hid hX
  rw [← hX]
  clear f3 HTR F2 BO2 hX
  have o0 := BO3.out.cell 0
  have o1 := BO3.out.cell 1
  have o2 := BO3.out.cell 2
  have o3 := BO3.out.cell 3
  have o4 := BO3.out.cell 4
  have o5 := BO3.out.cell 5
  have o6 := BO3.out.cell 6
  have o7 := BO3.out.cell 7
  have o8 := BO3.out.cell 8
  have o9 := BO3.out.cell 9
  have o10 := BO3.out.cell 10
  have o11 := BO3.out.cell 11
  have o12 := BO3.out.cell 12
  have o13 := BO3.out.cell 13
  have o14 := BO3.out.cell 14
  simp at o0 o1 o2 o3 o4 o5 o6 o7 o8 o9 o10 o11 o12 o13 o14
  have z0 := BO3.out.frozen 0
  have z1 := BO3.out.frozen 1
  have z2 := BO3.out.frozen 2
  have z3 := BO3.out.frozen 3
  have z4 := BO3.out.frozen 4
  have z5 := BO3.out.frozen 5
  have z6 := BO3.out.frozen 6
  have z7 := BO3.out.frozen 7
  have z8 := BO3.out.frozen 8
  have z9 := BO3.out.frozen 9
  have z10 := BO3.out.frozen 10
  have z11 := BO3.out.frozen 11
  have z12 := BO3.out.frozen 12
  have z13 := BO3.out.frozen 13
  have z14 := BO3.out.frozen 14
  go_wp2_with fail
  have be := blk_setL [.int .i64 X.kind, .int .i64 X.nd.id, .int .i64 X.nd.kind, .slice none 0 0, .slice none 0 0, .int .i64 X.nd.par, .int .i64 (X.nd.rt 0), .int .i64 (X.nd.rt 1), .int .i64 (X.nd.rt 2), .int .i64 (X.nd.rt 3), .int .i64 (X.nd.rt 4), .int .i64 (X.nd.rt 5), .int .i64 (X.nd.rt 6), .int .i64 (X.nd.rt 7), .bool X.rs] 0 BO3.out
  simp only [putL, List.setIfInBounds_toArray, List.set_cons_succ, List.set_cons_zero, Nat.reduceAdd] at be
  have fe := fr_setL (g := g) (.inl (by have := HG.out; omega)) [.int .i64 X.kind, .int .i64 X.nd.id, .int .i64 X.nd.kind, .slice none 0 0, .slice none 0 0, .int .i64 X.nd.par, .int .i64 (X.nd.rt 0), .int .i64 (X.nd.rt 1), .int .i64 (X.nd.rt 2), .int .i64 (X.nd.rt 3), .int .i64 (X.nd.rt 4), .int .i64 (X.nd.rt 5), .int .i64 (X.nd.rt 6), .int .i64 (X.nd.rt 7), .bool X.rs] 0 F3.out
  refine bodyPost_ret (results_cell_row_tmp rfl _ _ g 35 (stV X (.slice none 0 0) (.slice none 0 0)) (0, 0) _ rfl be Try.underlying35 rfl (by kernel_rfl)) rfl ?_
  unfold TriedOut
  rw [← HX.out]
  exact ⟨rfl, fe⟩
end Go.Proofs.Ythncfkpamokomaa
