/- Texts merged into one, for the number of files a claim may have: BuildC. -/
import Derived.Test.YthncfkpamokomaaMBldB
import Derived.Deep.RegionLaw
import Derived.Deep.RegionHeld3
import Derived.Deep.DeepCutAuto
namespace Go.Proofs.Ythncfkpamokomaa
open Go.RowKit Go.Fb
set_option linter.unusedVariables false
def migB (r1 cv tz par : Int) : Bool := (decide (r1 = 0) && (decide (tz < 0) || decide (par ≤ tz))) || (decide (r1 = 10) && decide (cv = 0))
def MigOut (b : Bool) (r1 : Int) (s : Stp) (w : World) (e : Ending) (w' : World) : Prop := e = .returned (.tuple #[.agg (stV (if b then zS else saidS r1 s) (.slice none 0 0) (.slice none 0 0)), .int .i64 (if b then 11 else r1)]) ∧ Fr w.heap.size [] w w'
theorem fr_st15 {B g : Nat} {L : List Nat} {a w : World} (h : Fr B L a w) (hg : B ≤ g) (u0 u1 u2 u3 u4 u5 u6 u7 u8 u9 u10 u11 u12 u13 u14 : Value) : Fr B L a (((((((((((((((w.setCell ⟨g, 0, none⟩ u0).setCell ⟨g, 1, none⟩ u1).setCell ⟨g, 2, none⟩ u2).setCell ⟨g, 3, none⟩ u3).setCell ⟨g, 4, none⟩ u4).setCell ⟨g, 5, none⟩ u5).setCell ⟨g, 6, none⟩ u6).setCell ⟨g, 7, none⟩ u7).setCell ⟨g, 8, none⟩ u8).setCell ⟨g, 9, none⟩ u9).setCell ⟨g, 10, none⟩ u10).setCell ⟨g, 11, none⟩ u11).setCell ⟨g, 12, none⟩ u12).setCell ⟨g, 13, none⟩ u13).setCell ⟨g, 14, none⟩ u14) := (((((((((((((((h.setCell (p := ⟨g, 0, none⟩) (Or.inl hg) u0).setCell (p := ⟨g, 1, none⟩) (Or.inl hg) u1).setCell (p := ⟨g, 2, none⟩) (Or.inl hg) u2).setCell (p := ⟨g, 3, none⟩) (Or.inl hg) u3).setCell (p := ⟨g, 4, none⟩) (Or.inl hg) u4).setCell (p := ⟨g, 5, none⟩) (Or.inl hg) u5).setCell (p := ⟨g, 6, none⟩) (Or.inl hg) u6).setCell (p := ⟨g, 7, none⟩) (Or.inl hg) u7).setCell (p := ⟨g, 8, none⟩) (Or.inl hg) u8).setCell (p := ⟨g, 9, none⟩) (Or.inl hg) u9).setCell (p := ⟨g, 10, none⟩) (Or.inl hg) u10).setCell (p := ⟨g, 11, none⟩) (Or.inl hg) u11).setCell (p := ⟨g, 12, none⟩) (Or.inl hg) u12).setCell (p := ⟨g, 13, none⟩) (Or.inl hg) u13).setCell (p := ⟨g, 14, none⟩) (Or.inl hg) u14)
theorem blk_st15 {g t : Nat} {w : World} (v0 v1 v2 v3 v4 v5 v6 v7 v8 v9 v10 v11 v12 v13 v14 : Value) (h : Blk w g t #[v0, v1, v2, v3, v4, v5, v6, v7, v8, v9, v10, v11, v12, v13, v14]) (u0 u1 u2 u3 u4 u5 u6 u7 u8 u9 u10 u11 u12 u13 u14 : Value) : Blk (((((((((((((((w.setCell ⟨g, 0, none⟩ u0).setCell ⟨g, 1, none⟩ u1).setCell ⟨g, 2, none⟩ u2).setCell ⟨g, 3, none⟩ u3).setCell ⟨g, 4, none⟩ u4).setCell ⟨g, 5, none⟩ u5).setCell ⟨g, 6, none⟩ u6).setCell ⟨g, 7, none⟩ u7).setCell ⟨g, 8, none⟩ u8).setCell ⟨g, 9, none⟩ u9).setCell ⟨g, 10, none⟩ u10).setCell ⟨g, 11, none⟩ u11).setCell ⟨g, 12, none⟩ u12).setCell ⟨g, 13, none⟩ u13).setCell ⟨g, 14, none⟩ u14) g t #[u0, u1, u2, u3, u4, u5, u6, u7, u8, u9, u10, u11, u12, u13, u14] := by
  have h1 := (((((((((((((((h.set_ 0 u0).set_ 1 u1).set_ 2 u2).set_ 3 u3).set_ 4 u4).set_ 5 u5).set_ 6 u6).set_ 7 u7).set_ 8 u8).set_ 9 u9).set_ 10 u10).set_ 11 u11).set_ 12 u12).set_ 13 u13).set_ 14 u14)
  simpa using h1
theorem then_gen {K : Exit → Act → World → Prop} {e : Exit} {a : Act} {w' : World} (P : World → Prop) (hP : P w') (h : ∀ W, P W → K e a W) : K e a w' := h w' hP
theorem inv_next {w2 W wm : World} (h : Fr w2.heap.size [] w2 W) (fm : Fr W.heap.size [] W wm) : Fr w2.heap.size [] w2 wm := h.trans (fm.mono h.size (by simp))
set_option maxRecDepth 100000 in
set_option maxHeartbeats 8000000 in
theorem migrate_any (id tz : Int) (Ag : Option Addr) (ng cg : Nat) (xs : List Int) (A : Option Addr) (c B n : Nat) (M : List Ndm) (w : World) (h : Nds w B A n M) (hB : B ≤ w.heap.size) (hs : Small M) (hk : ∀ x ∈ fstN M, x.fr.length ≤ 1000 ∧ x.pg.length ≤ 1000) (hg : Reads w B 1 Ag ng (xs.map (Value.int .i64))) (hng : ng ≤ 1000000) :
    Calls Try.prog 10 #[.slice A n c, .int .i64 id, .int .i64 tz, .slice Ag ng cg] w (MigOut (migB (stepN (fstN M) (mvS id (getN (fstN M) id).par (mergeR (getN (fstN M) id).rt xs tz))).1 (checkN (fstN M)) tz (getN (fstN M) id).par) (stepN (fstN M) (mvS id (getN (fstN M) id).par (mergeR (getN (fstN M) id).rt xs tz))).1 (mvS id (getN (fstN M) id).par (mergeR (getN (fstN M) id).rt xs tz)) w) := by
  obtain ⟨y, hy⟩ : ∃ y, y = getN (fstN M) id := ⟨_, rfl⟩
  rw [← hy]
  have BO := Lib.hid (Blk.new w 35 #[.int .i64 0, .int .i64 0, .int .i64 0, .slice none 0 0, .slice none 0 0, .int .i64 0, .int .i64 0, .int .i64 0, .int .i64 0, .int .i64 0, .int .i64 0, .int .i64 0, .int .i64 0, .int .i64 0, .bool false])
  have FA := Lib.hid ((Fr.refl w.heap.size [] w).alloc (Nat.le_refl _) (.cells #[.int .i64 0, .int .i64 0, .int .i64 0, .slice none 0 0, .slice none 0 0, .int .i64 0, .int .i64 0, .int .i64 0, .int .i64 0, .int .i64 0, .int .i64 0, .int .i64 0, .int .i64 0, .int .i64 0, .bool false] 35))
  obtain ⟨wa, hwa⟩ : ∃ wa, wa = w.alloc (.cells #[.int .i64 0, .int .i64 0, .int .i64 0, .slice none 0 0, .slice none 0 0, .int .i64 0, .int .i64 0, .int .i64 0, .int .i64 0, .int .i64 0, .int .i64 0, .int .i64 0, .int .i64 0, .int .i64 0, .bool false] 35) := ⟨_, rfl⟩
  rw [← hwa] at BO FA
  obtain ⟨r1, hr1⟩ : ∃ a, a = (stepN (fstN M) (mvS id y.par (mergeR y.rt xs tz))).1 := ⟨_, rfl⟩
  obtain ⟨cv, hcv⟩ : ∃ a, a = checkN (fstN M) := ⟨_, rfl⟩
  obtain ⟨R, hR⟩ : ∃ R, R = mergeR y.rt xs tz := ⟨_, rfl⟩
  have HMG := Lib.hid (fun (wx : World) (hx : Fr w.heap.size [] w wx) => (by rw [hR]; exact merge_any y.rt Ag ng cg xs tz wx ((hg.fr hx hB (by simp)).more (Nat.le_trans hB hx.size)) (by unfold maxLen; omega) : Calls Try.prog 28 #[A8 y.rt, .slice Ag ng cg, .int .i64 tz] wx fun e w' => e = .returned (A8 R) ∧ Fr wx.heap.size [] wx w'))
  have HMV := Lib.hid (fun (wx : World) => moved_any id y.par R wx)
  have HTR := Lib.hid (fun (wx : World) (hx : Fr w.heap.size [] w wx) => (by rw [hr1, hR]; exact tried_any (mvS id y.par (mergeR y.rt xs tz)) rfl rfl A c B n M wx (h.frw hx hB (by simp)) (Nat.le_trans hB hx.size) hs hk : Calls Try.prog 26 #[.slice A n c, .agg (stV (mvS id y.par R) (.slice none 0 0) (.slice none 0 0))] wx (TriedOut r1 (mvS id y.par R) wx)))
  have HCK := Lib.hid (fun (wx : World) (hx : Fr w.heap.size [] w wx) => (by rw [hcv]; exact gcheck_any A c B n M wx (h.frw hx hB (by simp)) (Nat.le_trans hB hx.size) hs : Calls Try.prog 19 #[.slice A n c] wx fun e w' => e = .returned (.int .i64 cv) ∧ Fr wx.heap.size [] wx w'))
  have HFD := Lib.hid (find_any id A c B n M wa (h.frw FA.out hB (by simp)) (Nat.le_trans hB FA.out.size) hs)
  rw [← hr1, ← hR, ← hcv]
  obtain ⟨mb, hmb⟩ : ∃ b, b = migB r1 cv tz y.par := ⟨_, rfl⟩
  rw [← hmb]
  have HMB := Lib.hid hmb
  obtain ⟨g, hg⟩ : ∃ g, g = w.heap.size := ⟨_, rfl⟩
  have HG := Lib.hid hg
  rw [← hg] at BO
  have HWA := Lib.hid hwa
  have HY := Lib.hid hy
  clear h hs hk hr1 hR hg hwa hcv hmb hy
  go_enter Try.func10, Try.ntmps10
  go_upto_region 1 with fail
  rw [← HWA.out, ← HG.out]
  go_wp2_with fail
  refine HFD.out.mono ?_
  intro e w1 h9
  obtain ⟨x0, sf0, sp0, hx0, rfl, hin0, f1⟩ := FindOut.get h9
  obtain rfl : x0 = y := hx0.trans HY.out.symm
  obtain ⟨⟨Bf, df, kf1, _⟩, ⟨Bp, dp, kp1, _⟩⟩ := hin0
  simp only at kf1 kp1
  subst kf1
  subst kp1
  obtain ⟨mf, hmf⟩ : ∃ z, z = x0.fr.length := ⟨_, rfl⟩
  obtain ⟨mp, hmp⟩ : ∃ z, z = x0.pg.length := ⟨_, rfl⟩
  obtain ⟨bt, hbt⟩ : ∃ b, b = (findN (M.map (fun z => z.1)) id).isSome := ⟨_, rfl⟩
  rw [← hmf, ← hmp, ← hbt]
  have fo := (Fr.refl w1.heap.size [] w1).alloc (Nat.le_refl _) (.cells (ndA x0 (.slice Bf mf df) (.slice Bp mp dp)) 33)
  have f10 := f1.trans (fo.mono (B' := wa.heap.size) (L' := []) f1.size (by simp))
  have F1 := Lib.hid (FA.out.trans (f10.mono (B' := w.heap.size) (L' := []) FA.out.size (by simp)))
  have BO1 := Lib.hid (BO.out.fr f10 BO.out.lt (by simp))
  have BN := Lib.hid (Blk.new w1 33 (ndA x0 (.slice Bf mf df) (.slice Bp mp dp)))
  clear h9 hx0 f1 hmf hmp hbt fo f10 HFD BO FA
  go_upto_region 2 with fail
  obtain ⟨gN, hgN⟩ : ∃ g, g = w1.heap.size := ⟨_, rfl⟩
  rw [← hgN] at BN
  try rw [← hgN]
  generalize w1.alloc (.cells (ndA x0 (.slice Bf mf df) (.slice Bp mp dp)) 33) = w2 at *
  clear hgN
  have q0 := BN.out.cell 0
  have q1 := BN.out.cell 1
  have q2 := BN.out.cell 2
  have q3 := BN.out.cell 3
  have q4 := BN.out.cell 4
  have q5 := BN.out.cell 5
  have q6 := BN.out.cell 6
  have q7 := BN.out.cell 7
  have q8 := BN.out.cell 8
  have q9 := BN.out.cell 9
  have q10 := BN.out.cell 10
  have q11 := BN.out.cell 11
  have q12 := BN.out.cell 12
  simp at q0 q1 q2 q3 q4 q5 q6 q7 q8 q9 q10 q11 q12
  have IN0 := Lib.hid (Fr.refl w2.heap.size [] w2)
  have INV := Lib.hid (Fr.refl w2.heap.size [] w2).drew
  have HX := Lib.hid (fun (wx : World) (hx : Fr w2.heap.size [] w2 wx) => F1.out.trans (hx.mono (B' := w.heap.size) (L' := []) F1.out.size (by simp)))
  have hgl : gN < w2.heap.size := BN.out.lt
  have SF := Lib.hid (fun (W : World) (h : Fr w2.heap.size [] w2 W) => (⟨(BN.out.fr h BN.out.lt (by simp)).cell 4, (BN.out.fr h BN.out.lt (by simp)).cell 5, (BN.out.fr h BN.out.lt (by simp)).cell 6, (BN.out.fr h BN.out.lt (by simp)).cell 7, (BN.out.fr h BN.out.lt (by simp)).cell 8, (BN.out.fr h BN.out.lt (by simp)).cell 9, (BN.out.fr h BN.out.lt (by simp)).cell 10, (BN.out.fr h BN.out.lt (by simp)).cell 11, (BN.out.fr h BN.out.lt (by simp)).cell 12⟩ : W.cell? ⟨gN, 4, none⟩ = some (.int .i64 x0.par) ∧ W.cell? ⟨gN, 5, none⟩ = some (.int .i64 (x0.rt 0)) ∧ W.cell? ⟨gN, 6, none⟩ = some (.int .i64 (x0.rt 1)) ∧ W.cell? ⟨gN, 7, none⟩ = some (.int .i64 (x0.rt 2)) ∧ W.cell? ⟨gN, 8, none⟩ = some (.int .i64 (x0.rt 3)) ∧ W.cell? ⟨gN, 9, none⟩ = some (.int .i64 (x0.rt 4)) ∧ W.cell? ⟨gN, 10, none⟩ = some (.int .i64 (x0.rt 5)) ∧ W.cell? ⟨gN, 11, none⟩ = some (.int .i64 (x0.rt 6)) ∧ W.cell? ⟨gN, 12, none⟩ = some (.int .i64 (x0.rt 7))))
  have SS := SF.out _ INV.out
  have SA := fun (W : World) (h : Fr w2.heap.size [] w2 W) (o : Obj) => SF.out (W.alloc o) (h.alloc h.size o)
  clear q0 q1 q2 q3 q4 q5 q6 q7 q8 q9 q10 q11 q12
  go_cut [12, 13] (fun s12 s13 wx => ∃ gT, s12 = .pointer (some ⟨gT, 0, none⟩) ∧ s13 = .int .i64 r1 ∧ RowKit.Hid (Blk wx gT 35 #[.int .i64 (saidS r1 (mvS id x0.par R)).kind, .int .i64 (saidS r1 (mvS id x0.par R)).nd.id, .int .i64 (saidS r1 (mvS id x0.par R)).nd.kind, .slice none 0 0, .slice none 0 0, .int .i64 (saidS r1 (mvS id x0.par R)).nd.par, .int .i64 ((saidS r1 (mvS id x0.par R)).nd.rt 0), .int .i64 ((saidS r1 (mvS id x0.par R)).nd.rt 1), .int .i64 ((saidS r1 (mvS id x0.par R)).nd.rt 2), .int .i64 ((saidS r1 (mvS id x0.par R)).nd.rt 3), .int .i64 ((saidS r1 (mvS id x0.par R)).nd.rt 4), .int .i64 ((saidS r1 (mvS id x0.par R)).nd.rt 5), .int .i64 ((saidS r1 (mvS id x0.par R)).nd.rt 6), .int .i64 ((saidS r1 (mvS id x0.par R)).nd.rt 7), .bool (saidS r1 (mvS id x0.par R)).rs]) ∧ RowKit.Hid (Fr w2.heap.size [] w2 wx))
  case first =>
    go_region_held3 (fun W => W.cell? ⟨gN, 4, none⟩ = some (.int .i64 x0.par) ∧ W.cell? ⟨gN, 5, none⟩ = some (.int .i64 (x0.rt 0)) ∧ W.cell? ⟨gN, 6, none⟩ = some (.int .i64 (x0.rt 1)) ∧ W.cell? ⟨gN, 7, none⟩ = some (.int .i64 (x0.rt 2)) ∧ W.cell? ⟨gN, 8, none⟩ = some (.int .i64 (x0.rt 3)) ∧ W.cell? ⟨gN, 9, none⟩ = some (.int .i64 (x0.rt 4)) ∧ W.cell? ⟨gN, 10, none⟩ = some (.int .i64 (x0.rt 5)) ∧ W.cell? ⟨gN, 11, none⟩ = some (.int .i64 (x0.rt 6)) ∧ W.cell? ⟨gN, 12, none⟩ = some (.int .i64 (x0.rt 7))) (with_reducible (first | assumption | (refine SF.out _ ?_; first | exact INV.out | exact INV.out.alloc INV.out.size _ | exact (IN0.out.alloc (Nat.le_refl _) _).drew | (refine fr_st15 ?_ ?_ _ _ _ _ _ _ _ _ _ _ _ _ _ _ _; (first | exact INV.out | exact INV.out.alloc INV.out.size _); (first | exact HGB.out | exact Nat.le_refl _ | exact INV.out.size)) | fail "NO ARM"))) ((first
      | (go_at_call 28; first
          | (refine (HMG.out (World.drew (World.alloc w2 (.cells #[.int .i64 0, .int .i64 0, .int .i64 0, .slice none 0 0, .slice none 0 0, .int .i64 0, .int .i64 0, .int .i64 0, .int .i64 0, .int .i64 0, .int .i64 0, .int .i64 0, .int .i64 0, .int .i64 0, .bool false] 35))) (HX.out _ (IN0.out.alloc (Nat.le_refl _) _).drew)).mono ?_; rintro e wm ⟨rfl, fm⟩; have BT1 := (Blk.drew (Blk.new w2 35 #[.int .i64 0, .int .i64 0, .int .i64 0, .slice none 0 0, .slice none 0 0, .int .i64 0, .int .i64 0, .int .i64 0, .int .i64 0, .int .i64 0, .int .i64 0, .int .i64 0, .int .i64 0, .int .i64 0, .bool false])).fr fm (by show _ < (World.alloc _ _).heap.size; simp) (by simp); have HGB := Lib.hid (Nat.le_refl w2.heap.size); have INV := Lib.hid (inv_next (IN0.out.alloc (Nat.le_refl _) _).drew fm); have SS := SF.out _ INV.out; have BT := Lib.hid BT1; have t0 := BT.out.cell 0; have t1 := BT.out.cell 1; have t2 := BT.out.cell 2; have t3 := BT.out.cell 3; have t4 := BT.out.cell 4; have t5 := BT.out.cell 5; have t6 := BT.out.cell 6; have t7 := BT.out.cell 7; have t8 := BT.out.cell 8; have t9 := BT.out.cell 9; have t10 := BT.out.cell 10; have t11 := BT.out.cell 11; have t12 := BT.out.cell 12; have t13 := BT.out.cell 13; have t14 := BT.out.cell 14; simp at t0 t1 t2 t3 t4 t5 t6 t7 t8 t9 t10 t11 t12 t13 t14; have u0 := BT.out.frozen 0; have u1 := BT.out.frozen 1; have u2 := BT.out.frozen 2; have u3 := BT.out.frozen 3; have u4 := BT.out.frozen 4; have u5 := BT.out.frozen 5; have u6 := BT.out.frozen 6; have u7 := BT.out.frozen 7; have u8 := BT.out.frozen 8; have u9 := BT.out.frozen 9; have u10 := BT.out.frozen 10; have u11 := BT.out.frozen 11; have u12 := BT.out.frozen 12; have u13 := BT.out.frozen 13; have u14 := BT.out.frozen 14)
          | (refine (HMG.out (World.alloc _ (.cells #[.int .i64 0, .int .i64 0, .int .i64 0, .slice none 0 0, .slice none 0 0, .int .i64 0, .int .i64 0, .int .i64 0, .int .i64 0, .int .i64 0, .int .i64 0, .int .i64 0, .int .i64 0, .int .i64 0, .bool false] 35)) (HX.out _ (INV.out.alloc INV.out.size _))).mono ?_; rintro e wm ⟨rfl, fm⟩; have BT1 := (Blk.new _ 35 #[.int .i64 0, .int .i64 0, .int .i64 0, .slice none 0 0, .slice none 0 0, .int .i64 0, .int .i64 0, .int .i64 0, .int .i64 0, .int .i64 0, .int .i64 0, .int .i64 0, .int .i64 0, .int .i64 0, .bool false]).fr fm (by simp) (by simp); have HGB := Lib.hid INV.out.size; have INV := Lib.hid (inv_next (INV.out.alloc INV.out.size _) fm); have SS := SF.out _ INV.out; have BT := Lib.hid BT1; have t0 := BT.out.cell 0; have t1 := BT.out.cell 1; have t2 := BT.out.cell 2; have t3 := BT.out.cell 3; have t4 := BT.out.cell 4; have t5 := BT.out.cell 5; have t6 := BT.out.cell 6; have t7 := BT.out.cell 7; have t8 := BT.out.cell 8; have t9 := BT.out.cell 9; have t10 := BT.out.cell 10; have t11 := BT.out.cell 11; have t12 := BT.out.cell 12; have t13 := BT.out.cell 13; have t14 := BT.out.cell 14; simp at t0 t1 t2 t3 t4 t5 t6 t7 t8 t9 t10 t11 t12 t13 t14; have u0 := BT.out.frozen 0; have u1 := BT.out.frozen 1; have u2 := BT.out.frozen 2; have u3 := BT.out.frozen 3; have u4 := BT.out.frozen 4; have u5 := BT.out.frozen 5; have u6 := BT.out.frozen 6; have u7 := BT.out.frozen 7; have u8 := BT.out.frozen 8; have u9 := BT.out.frozen 9; have u10 := BT.out.frozen 10; have u11 := BT.out.frozen 11; have u12 := BT.out.frozen 12; have u13 := BT.out.frozen 13; have u14 := BT.out.frozen 14)
          | (refine (HMG.out _ (HX.out _ INV.out)).mono ?_; rintro e wm ⟨rfl, fm⟩; have INV := Lib.hid (inv_next INV.out fm); have SS := SF.out _ INV.out; try (have BT1 := BT.out.fr fm BT.out.lt (by simp); have BT := Lib.hid BT1; have t0 := BT.out.cell 0; have t1 := BT.out.cell 1; have t2 := BT.out.cell 2; have t3 := BT.out.cell 3; have t4 := BT.out.cell 4; have t5 := BT.out.cell 5; have t6 := BT.out.cell 6; have t7 := BT.out.cell 7; have t8 := BT.out.cell 8; have t9 := BT.out.cell 9; have t10 := BT.out.cell 10; have t11 := BT.out.cell 11; have t12 := BT.out.cell 12; have t13 := BT.out.cell 13; have t14 := BT.out.cell 14; simp at t0 t1 t2 t3 t4 t5 t6 t7 t8 t9 t10 t11 t12 t13 t14; have u0 := BT.out.frozen 0; have u1 := BT.out.frozen 1; have u2 := BT.out.frozen 2; have u3 := BT.out.frozen 3; have u4 := BT.out.frozen 4; have u5 := BT.out.frozen 5; have u6 := BT.out.frozen 6; have u7 := BT.out.frozen 7; have u8 := BT.out.frozen 8; have u9 := BT.out.frozen 9; have u10 := BT.out.frozen 10; have u11 := BT.out.frozen 11; have u12 := BT.out.frozen 12; have u13 := BT.out.frozen 13; have u14 := BT.out.frozen 14)))
      | (go_at_call 27; first
          | (refine (HMV.out (World.alloc _ (.cells #[.int .i64 0, .int .i64 0, .int .i64 0, .slice none 0 0, .slice none 0 0, .int .i64 0, .int .i64 0, .int .i64 0, .int .i64 0, .int .i64 0, .int .i64 0, .int .i64 0, .int .i64 0, .int .i64 0, .bool false] 35))).mono ?_; rintro e wv ⟨rfl, fv⟩; have BT1 := (Blk.new _ 35 #[.int .i64 0, .int .i64 0, .int .i64 0, .slice none 0 0, .slice none 0 0, .int .i64 0, .int .i64 0, .int .i64 0, .int .i64 0, .int .i64 0, .int .i64 0, .int .i64 0, .int .i64 0, .int .i64 0, .bool false]).fr fv (by simp) (by simp); have HGB := Lib.hid INV.out.size; have INV := Lib.hid (inv_next (INV.out.alloc INV.out.size _) fv); have SS := SF.out _ INV.out; have BT := Lib.hid BT1; have t0 := BT.out.cell 0; have t1 := BT.out.cell 1; have t2 := BT.out.cell 2; have t3 := BT.out.cell 3; have t4 := BT.out.cell 4; have t5 := BT.out.cell 5; have t6 := BT.out.cell 6; have t7 := BT.out.cell 7; have t8 := BT.out.cell 8; have t9 := BT.out.cell 9; have t10 := BT.out.cell 10; have t11 := BT.out.cell 11; have t12 := BT.out.cell 12; have t13 := BT.out.cell 13; have t14 := BT.out.cell 14; simp at t0 t1 t2 t3 t4 t5 t6 t7 t8 t9 t10 t11 t12 t13 t14; have u0 := BT.out.frozen 0; have u1 := BT.out.frozen 1; have u2 := BT.out.frozen 2; have u3 := BT.out.frozen 3; have u4 := BT.out.frozen 4; have u5 := BT.out.frozen 5; have u6 := BT.out.frozen 6; have u7 := BT.out.frozen 7; have u8 := BT.out.frozen 8; have u9 := BT.out.frozen 9; have u10 := BT.out.frozen 10; have u11 := BT.out.frozen 11; have u12 := BT.out.frozen 12; have u13 := BT.out.frozen 13; have u14 := BT.out.frozen 14)
          | (refine (HMV.out _).mono ?_; rintro e wv ⟨rfl, fv⟩; have INV := Lib.hid (inv_next INV.out fv); have SS := SF.out _ INV.out; try (have BT1 := BT.out.fr fv BT.out.lt (by simp); have BT := Lib.hid BT1; have t0 := BT.out.cell 0; have t1 := BT.out.cell 1; have t2 := BT.out.cell 2; have t3 := BT.out.cell 3; have t4 := BT.out.cell 4; have t5 := BT.out.cell 5; have t6 := BT.out.cell 6; have t7 := BT.out.cell 7; have t8 := BT.out.cell 8; have t9 := BT.out.cell 9; have t10 := BT.out.cell 10; have t11 := BT.out.cell 11; have t12 := BT.out.cell 12; have t13 := BT.out.cell 13; have t14 := BT.out.cell 14; simp at t0 t1 t2 t3 t4 t5 t6 t7 t8 t9 t10 t11 t12 t13 t14; have u0 := BT.out.frozen 0; have u1 := BT.out.frozen 1; have u2 := BT.out.frozen 2; have u3 := BT.out.frozen 3; have u4 := BT.out.frozen 4; have u5 := BT.out.frozen 5; have u6 := BT.out.frozen 6; have u7 := BT.out.frozen 7; have u8 := BT.out.frozen 8; have u9 := BT.out.frozen 9; have u10 := BT.out.frozen 10; have u11 := BT.out.frozen 11; have u12 := BT.out.frozen 12; have u13 := BT.out.frozen 13; have u14 := BT.out.frozen 14)))
      | (go_at_call 26; first
          | (refine (HTR.out (World.alloc _ (.cells #[.int .i64 0, .int .i64 0, .int .i64 0, .slice none 0 0, .slice none 0 0, .int .i64 0, .int .i64 0, .int .i64 0, .int .i64 0, .int .i64 0, .int .i64 0, .int .i64 0, .int .i64 0, .int .i64 0, .bool false] 35)) (HX.out _ (INV.out.alloc INV.out.size _))).mono ?_; rintro e wt ⟨rfl, ft⟩; have BT1 := (Blk.new _ 35 #[.int .i64 0, .int .i64 0, .int .i64 0, .slice none 0 0, .slice none 0 0, .int .i64 0, .int .i64 0, .int .i64 0, .int .i64 0, .int .i64 0, .int .i64 0, .int .i64 0, .int .i64 0, .int .i64 0, .bool false]).fr ft (by simp) (by simp); have HGB := Lib.hid INV.out.size; have INV := Lib.hid (inv_next (INV.out.alloc INV.out.size _) ft); have SS := SF.out _ INV.out; have BT := Lib.hid BT1; have t0 := BT.out.cell 0; have t1 := BT.out.cell 1; have t2 := BT.out.cell 2; have t3 := BT.out.cell 3; have t4 := BT.out.cell 4; have t5 := BT.out.cell 5; have t6 := BT.out.cell 6; have t7 := BT.out.cell 7; have t8 := BT.out.cell 8; have t9 := BT.out.cell 9; have t10 := BT.out.cell 10; have t11 := BT.out.cell 11; have t12 := BT.out.cell 12; have t13 := BT.out.cell 13; have t14 := BT.out.cell 14; simp at t0 t1 t2 t3 t4 t5 t6 t7 t8 t9 t10 t11 t12 t13 t14; have u0 := BT.out.frozen 0; have u1 := BT.out.frozen 1; have u2 := BT.out.frozen 2; have u3 := BT.out.frozen 3; have u4 := BT.out.frozen 4; have u5 := BT.out.frozen 5; have u6 := BT.out.frozen 6; have u7 := BT.out.frozen 7; have u8 := BT.out.frozen 8; have u9 := BT.out.frozen 9; have u10 := BT.out.frozen 10; have u11 := BT.out.frozen 11; have u12 := BT.out.frozen 12; have u13 := BT.out.frozen 13; have u14 := BT.out.frozen 14)
          | (refine (HTR.out _ (HX.out _ INV.out)).mono ?_; rintro e wt ⟨rfl, ft⟩; have INV := Lib.hid (inv_next INV.out ft); have SS := SF.out _ INV.out; try (have BT1 := BT.out.fr ft BT.out.lt (by simp); have BT := Lib.hid BT1; have t0 := BT.out.cell 0; have t1 := BT.out.cell 1; have t2 := BT.out.cell 2; have t3 := BT.out.cell 3; have t4 := BT.out.cell 4; have t5 := BT.out.cell 5; have t6 := BT.out.cell 6; have t7 := BT.out.cell 7; have t8 := BT.out.cell 8; have t9 := BT.out.cell 9; have t10 := BT.out.cell 10; have t11 := BT.out.cell 11; have t12 := BT.out.cell 12; have t13 := BT.out.cell 13; have t14 := BT.out.cell 14; simp at t0 t1 t2 t3 t4 t5 t6 t7 t8 t9 t10 t11 t12 t13 t14; have u0 := BT.out.frozen 0; have u1 := BT.out.frozen 1; have u2 := BT.out.frozen 2; have u3 := BT.out.frozen 3; have u4 := BT.out.frozen 4; have u5 := BT.out.frozen 5; have u6 := BT.out.frozen 6; have u7 := BT.out.frozen 7; have u8 := BT.out.frozen 8; have u9 := BT.out.frozen 9; have u10 := BT.out.frozen 10; have u11 := BT.out.frozen 11; have u12 := BT.out.frozen 12; have u13 := BT.out.frozen 13; have u14 := BT.out.frozen 14)))
      ))
    all_goals
      first
      | (refine then_gen (fun W => Blk W wt.heap.size 35 #[.int .i64 (saidS r1 (mvS id x0.par R)).kind, .int .i64 (saidS r1 (mvS id x0.par R)).nd.id, .int .i64 (saidS r1 (mvS id x0.par R)).nd.kind, .slice none 0 0, .slice none 0 0, .int .i64 (saidS r1 (mvS id x0.par R)).nd.par, .int .i64 ((saidS r1 (mvS id x0.par R)).nd.rt 0), .int .i64 ((saidS r1 (mvS id x0.par R)).nd.rt 1), .int .i64 ((saidS r1 (mvS id x0.par R)).nd.rt 2), .int .i64 ((saidS r1 (mvS id x0.par R)).nd.rt 3), .int .i64 ((saidS r1 (mvS id x0.par R)).nd.rt 4), .int .i64 ((saidS r1 (mvS id x0.par R)).nd.rt 5), .int .i64 ((saidS r1 (mvS id x0.par R)).nd.rt 6), .int .i64 ((saidS r1 (mvS id x0.par R)).nd.rt 7), .bool (saidS r1 (mvS id x0.par R)).rs] ∧ Fr w2.heap.size [] w2 W) ⟨?_, ?_⟩ (fun W hW => ?_)
         · with_reducible first | exact Blk.new _ _ _ | exact blk_st15 _ _ _ _ _ _ _ _ _ _ _ _ _ _ _ BT.out _ _ _ _ _ _ _ _ _ _ _ _ _ _ _
         · with_reducible first | exact INV.out.alloc INV.out.size _ | exact fr_st15 INV.out HGB.out _ _ _ _ _ _ _ _ _ _ _ _ _ _ _
         obtain ⟨gT, hgT⟩ : ∃ g, g = wt.heap.size := ⟨_, rfl⟩
         obtain ⟨BS, FW⟩ := hW
         rw [← hgT] at BS
         rw [← hgT])
      | (refine then_gen (fun W => Blk W wv.heap.size 35 #[.int .i64 (saidS r1 (mvS id x0.par R)).kind, .int .i64 (saidS r1 (mvS id x0.par R)).nd.id, .int .i64 (saidS r1 (mvS id x0.par R)).nd.kind, .slice none 0 0, .slice none 0 0, .int .i64 (saidS r1 (mvS id x0.par R)).nd.par, .int .i64 ((saidS r1 (mvS id x0.par R)).nd.rt 0), .int .i64 ((saidS r1 (mvS id x0.par R)).nd.rt 1), .int .i64 ((saidS r1 (mvS id x0.par R)).nd.rt 2), .int .i64 ((saidS r1 (mvS id x0.par R)).nd.rt 3), .int .i64 ((saidS r1 (mvS id x0.par R)).nd.rt 4), .int .i64 ((saidS r1 (mvS id x0.par R)).nd.rt 5), .int .i64 ((saidS r1 (mvS id x0.par R)).nd.rt 6), .int .i64 ((saidS r1 (mvS id x0.par R)).nd.rt 7), .bool (saidS r1 (mvS id x0.par R)).rs] ∧ Fr w2.heap.size [] w2 W) ⟨?_, ?_⟩ (fun W hW => ?_)
         · with_reducible first | exact Blk.new _ _ _ | exact blk_st15 _ _ _ _ _ _ _ _ _ _ _ _ _ _ _ BT.out _ _ _ _ _ _ _ _ _ _ _ _ _ _ _
         · with_reducible first | exact INV.out.alloc INV.out.size _ | exact fr_st15 INV.out HGB.out _ _ _ _ _ _ _ _ _ _ _ _ _ _ _
         obtain ⟨gT, hgT⟩ : ∃ g, g = wv.heap.size := ⟨_, rfl⟩
         obtain ⟨BS, FW⟩ := hW
         rw [← hgT] at BS
         rw [← hgT])
      | (refine then_gen (fun W => Blk W wm.heap.size 35 #[.int .i64 (saidS r1 (mvS id x0.par R)).kind, .int .i64 (saidS r1 (mvS id x0.par R)).nd.id, .int .i64 (saidS r1 (mvS id x0.par R)).nd.kind, .slice none 0 0, .slice none 0 0, .int .i64 (saidS r1 (mvS id x0.par R)).nd.par, .int .i64 ((saidS r1 (mvS id x0.par R)).nd.rt 0), .int .i64 ((saidS r1 (mvS id x0.par R)).nd.rt 1), .int .i64 ((saidS r1 (mvS id x0.par R)).nd.rt 2), .int .i64 ((saidS r1 (mvS id x0.par R)).nd.rt 3), .int .i64 ((saidS r1 (mvS id x0.par R)).nd.rt 4), .int .i64 ((saidS r1 (mvS id x0.par R)).nd.rt 5), .int .i64 ((saidS r1 (mvS id x0.par R)).nd.rt 6), .int .i64 ((saidS r1 (mvS id x0.par R)).nd.rt 7), .bool (saidS r1 (mvS id x0.par R)).rs] ∧ Fr w2.heap.size [] w2 W) ⟨?_, ?_⟩ (fun W hW => ?_)
         · with_reducible first | exact Blk.new _ _ _ | exact blk_st15 _ _ _ _ _ _ _ _ _ _ _ _ _ _ _ BT.out _ _ _ _ _ _ _ _ _ _ _ _ _ _ _
         · with_reducible first | exact INV.out.alloc INV.out.size _ | exact fr_st15 INV.out HGB.out _ _ _ _ _ _ _ _ _ _ _ _ _ _ _
         obtain ⟨gT, hgT⟩ : ∃ g, g = wm.heap.size := ⟨_, rfl⟩
         obtain ⟨BS, FW⟩ := hW
         rw [← hgT] at BS
         rw [← hgT])
      | (refine then_gen (fun W => Blk W w2.heap.size 35 #[.int .i64 (saidS r1 (mvS id x0.par R)).kind, .int .i64 (saidS r1 (mvS id x0.par R)).nd.id, .int .i64 (saidS r1 (mvS id x0.par R)).nd.kind, .slice none 0 0, .slice none 0 0, .int .i64 (saidS r1 (mvS id x0.par R)).nd.par, .int .i64 ((saidS r1 (mvS id x0.par R)).nd.rt 0), .int .i64 ((saidS r1 (mvS id x0.par R)).nd.rt 1), .int .i64 ((saidS r1 (mvS id x0.par R)).nd.rt 2), .int .i64 ((saidS r1 (mvS id x0.par R)).nd.rt 3), .int .i64 ((saidS r1 (mvS id x0.par R)).nd.rt 4), .int .i64 ((saidS r1 (mvS id x0.par R)).nd.rt 5), .int .i64 ((saidS r1 (mvS id x0.par R)).nd.rt 6), .int .i64 ((saidS r1 (mvS id x0.par R)).nd.rt 7), .bool (saidS r1 (mvS id x0.par R)).rs] ∧ Fr w2.heap.size [] w2 W) ⟨?_, ?_⟩ (fun W hW => ?_)
         · with_reducible first | exact Blk.new _ _ _ | exact blk_st15 _ _ _ _ _ _ _ _ _ _ _ _ _ _ _ BT.out _ _ _ _ _ _ _ _ _ _ _ _ _ _ _
         · with_reducible first | exact INV.out.alloc INV.out.size _ | exact fr_st15 INV.out HGB.out _ _ _ _ _ _ _ _ _ _ _ _ _ _ _
         obtain ⟨gT, hgT⟩ : ∃ g, g = w2.heap.size := ⟨_, rfl⟩
         obtain ⟨BS, FW⟩ := hW
         rw [← hgT] at BS
         rw [← hgT])
    all_goals
      have BS := Lib.hid BS
      have FW := Lib.hid FW
      have HGT := Lib.hid hgT
      clear hgT SS
      go_wp2_with fail
      go_meet
      exact ⟨gT, rfl, rfl, BS, FW⟩
  case rest =>
    obtain ⟨gT, rfl, rfl, BS, FW⟩ := hcut
    have NB := (BN.out.fr FW.out BN.out.lt (by simp)).cell 4
    simp at NB
    clear SS INV SA
    go_upto_region 3 with fail
    -- TAIL
    obtain ⟨X, hX⟩ : ∃ X, X = saidS r1 (mvS id x0.par R) := ⟨_, rfl⟩
    have HXX := Lib.hid hX
    have BSX := Lib.hid (by rw [hX]; exact BS.out : Blk wc gT 35 #[.int .i64 X.kind, .int .i64 X.nd.id, .int .i64 X.nd.kind, .slice none 0 0, .slice none 0 0, .int .i64 X.nd.par, .int .i64 (X.nd.rt 0), .int .i64 (X.nd.rt 1), .int .i64 (X.nd.rt 2), .int .i64 (X.nd.rt 3), .int .i64 (X.nd.rt 4), .int .i64 (X.nd.rt 5), .int .i64 (X.nd.rt 6), .int .i64 (X.nd.rt 7), .bool X.rs])
    have BO3 := Lib.hid (BO1.out.fr FW.out BO1.out.lt (by simp))
    have F3 := Lib.hid (HX.out wc FW.out)
    have HC3 := Lib.hid (HCK.out wc F3.out)
    clear hX BS HCK HMG HMV HTR SF
    have o0 := BO3.out.cell 0
    have o1 := BO3.out.cell 1
    have o2 := BO3.out.cell 2
    have o3 := BO3.out.cell 3
    have o4 := BO3.out.cell 4
    have o5 := BO3.out.cell 5
    have o6 := BO3.out.cell 6
    have o7 := BO3.out.cell 7
    have o8 := BO3.out.cell 8
    have o9 := BO3.out.cell 9
    have o10 := BO3.out.cell 10
    have o11 := BO3.out.cell 11
    have o12 := BO3.out.cell 12
    have o13 := BO3.out.cell 13
    have o14 := BO3.out.cell 14
    simp at o0 o1 o2 o3 o4 o5 o6 o7 o8 o9 o10 o11 o12 o13 o14
    have z0 := BO3.out.frozen 0
    have z1 := BO3.out.frozen 1
    have z2 := BO3.out.frozen 2
    have z3 := BO3.out.frozen 3
    have z4 := BO3.out.frozen 4
    have z5 := BO3.out.frozen 5
    have z6 := BO3.out.frozen 6
    have z7 := BO3.out.frozen 7
    have z8 := BO3.out.frozen 8
    have z9 := BO3.out.frozen 9
    have z10 := BO3.out.frozen 10
    have z11 := BO3.out.frozen 11
    have z12 := BO3.out.frozen 12
    have z13 := BO3.out.frozen 13
    have z14 := BO3.out.frozen 14
    have k0 := BSX.out.cell 0
    have k1 := BSX.out.cell 1
    have k2 := BSX.out.cell 2
    have k3 := BSX.out.cell 3
    have k4 := BSX.out.cell 4
    have k5 := BSX.out.cell 5
    have k6 := BSX.out.cell 6
    have k7 := BSX.out.cell 7
    have k8 := BSX.out.cell 8
    have k9 := BSX.out.cell 9
    have k10 := BSX.out.cell 10
    have k11 := BSX.out.cell 11
    have k12 := BSX.out.cell 12
    have k13 := BSX.out.cell 13
    have k14 := BSX.out.cell 14
    simp at k0 k1 k2 k3 k4 k5 k6 k7 k8 k9 k10 k11 k12 k13 k14
    by_cases e0 : r1 = 0
    · have HE0 := Lib.hid e0
      subst e0
      by_cases t0 : tz < 0
      · have HMT := Lib.hid (show mb = true by rw [HMB.out]; simp [migB, t0])
        go_wp2_with fail
        have be := blk_setL [.int .i64 0, .int .i64 0, .int .i64 0, .slice none 0 0, .slice none 0 0, .int .i64 0, .int .i64 0, .int .i64 0, .int .i64 0, .int .i64 0, .int .i64 0, .int .i64 0, .int .i64 0, .int .i64 0, .bool false] 0 BO3.out
        simp only [putL, List.setIfInBounds_toArray, List.set_cons_succ, List.set_cons_zero, Nat.reduceAdd] at be
        have fe := fr_setL (g := g) (.inl (by have := HG.out; omega)) [.int .i64 0, .int .i64 0, .int .i64 0, .slice none 0 0, .slice none 0 0, .int .i64 0, .int .i64 0, .int .i64 0, .int .i64 0, .int .i64 0, .int .i64 0, .int .i64 0, .int .i64 0, .int .i64 0, .bool false] 0 F3.out
        refine bodyPost_ret (results_cell_row_tmp rfl _ _ g 35 (stV zS (.slice none 0 0) (.slice none 0 0)) (0, 0) _ rfl be Try.underlying35 rfl (by kernel_rfl)) rfl ?_
        unfold MigOut
        rw [HMT.out]
        exact ⟨rfl, fe⟩
      · by_cases t1 : x0.par ≤ tz
        · have HMT := Lib.hid (show mb = true by rw [HMB.out]; simp [migB, t1])
          have t2 : 0 ≤ tz := by omega
          go_wp2_with fail
          have be := blk_setL [.int .i64 0, .int .i64 0, .int .i64 0, .slice none 0 0, .slice none 0 0, .int .i64 0, .int .i64 0, .int .i64 0, .int .i64 0, .int .i64 0, .int .i64 0, .int .i64 0, .int .i64 0, .int .i64 0, .bool false] 0 BO3.out
          simp only [putL, List.setIfInBounds_toArray, List.set_cons_succ, List.set_cons_zero, Nat.reduceAdd] at be
          have fe := fr_setL (g := g) (.inl (by have := HG.out; omega)) [.int .i64 0, .int .i64 0, .int .i64 0, .slice none 0 0, .slice none 0 0, .int .i64 0, .int .i64 0, .int .i64 0, .int .i64 0, .int .i64 0, .int .i64 0, .int .i64 0, .int .i64 0, .int .i64 0, .bool false] 0 F3.out
          refine bodyPost_ret (results_cell_row_tmp rfl _ _ g 35 (stV zS (.slice none 0 0) (.slice none 0 0)) (0, 0) _ rfl be Try.underlying35 rfl (by kernel_rfl)) rfl ?_
          unfold MigOut
          rw [HMT.out]
          exact ⟨rfl, fe⟩
        · have HMF := Lib.hid (show mb = false by rw [HMB.out]; simp [migB, t1, t0])
          have t2 : 0 ≤ tz := by omega
          have t3 : tz < x0.par := by omega
          go_wp2_with fail
          have be := blk_setL [.int .i64 X.kind, .int .i64 X.nd.id, .int .i64 X.nd.kind, .slice none 0 0, .slice none 0 0, .int .i64 X.nd.par, .int .i64 (X.nd.rt 0), .int .i64 (X.nd.rt 1), .int .i64 (X.nd.rt 2), .int .i64 (X.nd.rt 3), .int .i64 (X.nd.rt 4), .int .i64 (X.nd.rt 5), .int .i64 (X.nd.rt 6), .int .i64 (X.nd.rt 7), .bool X.rs] 0 BO3.out
          simp only [putL, List.setIfInBounds_toArray, List.set_cons_succ, List.set_cons_zero, Nat.reduceAdd] at be
          have fe := fr_setL (g := g) (.inl (by have := HG.out; omega)) [.int .i64 X.kind, .int .i64 X.nd.id, .int .i64 X.nd.kind, .slice none 0 0, .slice none 0 0, .int .i64 X.nd.par, .int .i64 (X.nd.rt 0), .int .i64 (X.nd.rt 1), .int .i64 (X.nd.rt 2), .int .i64 (X.nd.rt 3), .int .i64 (X.nd.rt 4), .int .i64 (X.nd.rt 5), .int .i64 (X.nd.rt 6), .int .i64 (X.nd.rt 7), .bool X.rs] 0 F3.out
          refine bodyPost_ret (results_cell_row_tmp rfl _ _ g 35 (stV X (.slice none 0 0) (.slice none 0 0)) (0, 0) _ rfl be Try.underlying35 rfl (by kernel_rfl)) rfl ?_
          unfold MigOut
          rw [HMF.out, ← HXX.out]
          exact ⟨rfl, fe⟩
    · have hcb := kd_ne e0
      have hcn : (r1 != 0) = true := by simpa using e0
      by_cases e1 : r1 = 10
      · have HE0 := Lib.hid e1
        subst e1
        clear e0 hcb hcn o0 o1 o2 o3 o4 o5 o6 o7 o8 o9 o10 o11 o12 o13 o14 z0 z1 z2 z3 z4 z5 z6 z7 z8 z9 z10 z11 z12 z13 z14 k0 k1 k2 k3 k4 k5 k6 k7 k8 k9 k10 k11 k12 k13 k14
        go_wp2_with fail
        refine HC3.out.mono ?_
        rintro e w4 ⟨rfl, f4⟩
        have F4 := Lib.hid (F3.out.trans (f4.mono (B' := w.heap.size) (L' := []) F3.out.size (by simp)))
        have BO4 := Lib.hid (BO3.out.fr f4 BO3.out.lt (by simp))
        have BS4 := Lib.hid (BSX.out.fr f4 BSX.out.lt (by simp))
        clear f4
        have o0 := BO4.out.cell 0
        have o1 := BO4.out.cell 1
        have o2 := BO4.out.cell 2
        have o3 := BO4.out.cell 3
        have o4 := BO4.out.cell 4
        have o5 := BO4.out.cell 5
        have o6 := BO4.out.cell 6
        have o7 := BO4.out.cell 7
        have o8 := BO4.out.cell 8
        have o9 := BO4.out.cell 9
        have o10 := BO4.out.cell 10
        have o11 := BO4.out.cell 11
        have o12 := BO4.out.cell 12
        have o13 := BO4.out.cell 13
        have o14 := BO4.out.cell 14
        simp at o0 o1 o2 o3 o4 o5 o6 o7 o8 o9 o10 o11 o12 o13 o14
        have z0 := BO4.out.frozen 0
        have z1 := BO4.out.frozen 1
        have z2 := BO4.out.frozen 2
        have z3 := BO4.out.frozen 3
        have z4 := BO4.out.frozen 4
        have z5 := BO4.out.frozen 5
        have z6 := BO4.out.frozen 6
        have z7 := BO4.out.frozen 7
        have z8 := BO4.out.frozen 8
        have z9 := BO4.out.frozen 9
        have z10 := BO4.out.frozen 10
        have z11 := BO4.out.frozen 11
        have z12 := BO4.out.frozen 12
        have z13 := BO4.out.frozen 13
        have z14 := BO4.out.frozen 14
        have k0 := BS4.out.cell 0
        have k1 := BS4.out.cell 1
        have k2 := BS4.out.cell 2
        have k3 := BS4.out.cell 3
        have k4 := BS4.out.cell 4
        have k5 := BS4.out.cell 5
        have k6 := BS4.out.cell 6
        have k7 := BS4.out.cell 7
        have k8 := BS4.out.cell 8
        have k9 := BS4.out.cell 9
        have k10 := BS4.out.cell 10
        have k11 := BS4.out.cell 11
        have k12 := BS4.out.cell 12
        have k13 := BS4.out.cell 13
        have k14 := BS4.out.cell 14
        simp at k0 k1 k2 k3 k4 k5 k6 k7 k8 k9 k10 k11 k12 k13 k14
        by_cases e2 : cv = 0
        · have HMT := Lib.hid (show mb = true by rw [HMB.out]; simp [migB, e2])
          subst e2
          go_wp2_with fail
          have be := blk_setL [.int .i64 0, .int .i64 0, .int .i64 0, .slice none 0 0, .slice none 0 0, .int .i64 0, .int .i64 0, .int .i64 0, .int .i64 0, .int .i64 0, .int .i64 0, .int .i64 0, .int .i64 0, .int .i64 0, .bool false] 0 BO4.out
          simp only [putL, List.setIfInBounds_toArray, List.set_cons_succ, List.set_cons_zero, Nat.reduceAdd] at be
          have fe := fr_setL (g := g) (.inl (by have := HG.out; omega)) [.int .i64 0, .int .i64 0, .int .i64 0, .slice none 0 0, .slice none 0 0, .int .i64 0, .int .i64 0, .int .i64 0, .int .i64 0, .int .i64 0, .int .i64 0, .int .i64 0, .int .i64 0, .int .i64 0, .bool false] 0 F4.out
          refine bodyPost_ret (results_cell_row_tmp rfl _ _ g 35 (stV zS (.slice none 0 0) (.slice none 0 0)) (0, 0) _ rfl be Try.underlying35 rfl (by kernel_rfl)) rfl ?_
          unfold MigOut
          rw [HMT.out]
          exact ⟨rfl, fe⟩
        · have HMF := Lib.hid (show mb = false by rw [HMB.out]; simp [migB, e2])
          have hcv := kd_ne e2
          clear e2
          go_wp2_with fail
          have be := blk_setL [.int .i64 X.kind, .int .i64 X.nd.id, .int .i64 X.nd.kind, .slice none 0 0, .slice none 0 0, .int .i64 X.nd.par, .int .i64 (X.nd.rt 0), .int .i64 (X.nd.rt 1), .int .i64 (X.nd.rt 2), .int .i64 (X.nd.rt 3), .int .i64 (X.nd.rt 4), .int .i64 (X.nd.rt 5), .int .i64 (X.nd.rt 6), .int .i64 (X.nd.rt 7), .bool X.rs] 0 BO4.out
          simp only [putL, List.setIfInBounds_toArray, List.set_cons_succ, List.set_cons_zero, Nat.reduceAdd] at be
          have fe := fr_setL (g := g) (.inl (by have := HG.out; omega)) [.int .i64 X.kind, .int .i64 X.nd.id, .int .i64 X.nd.kind, .slice none 0 0, .slice none 0 0, .int .i64 X.nd.par, .int .i64 (X.nd.rt 0), .int .i64 (X.nd.rt 1), .int .i64 (X.nd.rt 2), .int .i64 (X.nd.rt 3), .int .i64 (X.nd.rt 4), .int .i64 (X.nd.rt 5), .int .i64 (X.nd.rt 6), .int .i64 (X.nd.rt 7), .bool X.rs] 0 F4.out
          refine bodyPost_ret (results_cell_row_tmp rfl _ _ g 35 (stV X (.slice none 0 0) (.slice none 0 0)) (0, 0) _ rfl be Try.underlying35 rfl (by kernel_rfl)) rfl ?_
          unfold MigOut
          rw [HMF.out, ← HXX.out]
          exact ⟨rfl, fe⟩
      · have HMF := Lib.hid (show mb = false by rw [HMB.out]; simp [migB, e0, e1])
        have hcb2 : (r1 == 10) = false := by simpa using e1
        clear e0 e1
        go_wp2_with fail
        have be := blk_setL [.int .i64 X.kind, .int .i64 X.nd.id, .int .i64 X.nd.kind, .slice none 0 0, .slice none 0 0, .int .i64 X.nd.par, .int .i64 (X.nd.rt 0), .int .i64 (X.nd.rt 1), .int .i64 (X.nd.rt 2), .int .i64 (X.nd.rt 3), .int .i64 (X.nd.rt 4), .int .i64 (X.nd.rt 5), .int .i64 (X.nd.rt 6), .int .i64 (X.nd.rt 7), .bool X.rs] 0 BO3.out
        simp only [putL, List.setIfInBounds_toArray, List.set_cons_succ, List.set_cons_zero, Nat.reduceAdd] at be
        have fe := fr_setL (g := g) (.inl (by have := HG.out; omega)) [.int .i64 X.kind, .int .i64 X.nd.id, .int .i64 X.nd.kind, .slice none 0 0, .slice none 0 0, .int .i64 X.nd.par, .int .i64 (X.nd.rt 0), .int .i64 (X.nd.rt 1), .int .i64 (X.nd.rt 2), .int .i64 (X.nd.rt 3), .int .i64 (X.nd.rt 4), .int .i64 (X.nd.rt 5), .int .i64 (X.nd.rt 6), .int .i64 (X.nd.rt 7), .bool X.rs] 0 F3.out
        refine bodyPost_ret (results_cell_row_tmp rfl _ _ g 35 (stV X (.slice none 0 0) (.slice none 0 0)) (0, 0) _ rfl be Try.underlying35 rfl (by kernel_rfl)) rfl ?_
        unfold MigOut
        rw [HMF.out, ← HXX.out]
        exact ⟨rfl, fe⟩
end Go.Proofs.Ythncfkpamokomaa
