/- Texts merged into one, for the number of files a claim may have: StpB, Stp, PlStep, StL, Apply. -/
import Derived.Test.YthfibggbipkmfaaGreatDX4
import Derived.Test.YthfibggbipkmfaaGreatDX9
import Derived.Test.YthfibggbipkmfaaGreatDX12
import Derived.Test.YthfibggbipkmfaaGreatDX20
namespace Go.Proofs.YthfibggbipkmfaaGreat
open Go.RowKit Go.Fb
set_option linter.unusedVariables false
set_option maxRecDepth 100000 in
set_option maxHeartbeats 16000000 in
theorem clean_2 (kd : Int) (x : Nd) (rs : Bool) (sf sp : Value) (B : Nat) (w : World) (hkd : kd = 2) (h : NdIn w B (x, sf, sp)) (hB : B ≤ w.heap.size) (h1 : x.fr.length ≤ 1000000) (h2 : x.pg.length ≤ 1000000) :
    Calls Tryz.prog 85 #[.agg (stA kd x rs sf sp)] w (CleanOut ⟨kd, x, rs⟩ w) := by
  have HKD := Lib.hid hkd
  clear hkd
  obtain ⟨⟨Af, cf, hf1, hf2⟩, ⟨Ap, cp, hp1, hp2⟩⟩ := h
  simp only at hf1 hf2 hp1 hp2
  subst hf1
  subst hp1
  obtain ⟨nf, hnf⟩ : ∃ z, z = x.fr.length := ⟨_, rfl⟩
  obtain ⟨np, hnp⟩ : ∃ z, z = x.pg.length := ⟨_, rfl⟩
  have RP := Lib.hid hp2
  have RF := Lib.hid hf2
  rw [← hnf] at RF h1 ⊢
  rw [← hnp] at RP h2 ⊢
  have HNF := Lib.hid hnf
  have HNP := Lib.hid hnp
  obtain ⟨cs, hcs⟩ : ∃ c, c = cleanS ⟨kd, x, rs⟩ := ⟨_, rfl⟩
  obtain ⟨Q, hQ⟩ : ∃ Q, Q = CleanOut ⟨kd, x, rs⟩ w := ⟨_, rfl⟩
  rw [← hQ]
  have HOUT := Lib.hid (fun (tf tp : Value) (w' : World) (ha : NdIn w' w'.heap.size (cs.nd, tf, tp)) (hb : Fresh w.heap.size tf) (hc : Fresh w.heap.size tp) (hd : Fr w.heap.size [] w w') => (by
    rw [hQ]
    unfold CleanOut
    rw [← hcs]
    exact ⟨tf, tp, rfl, ha, hb, hc, hd⟩ : Q (.returned (.agg (stV cs tf tp))) w'))
  have HCS := Lib.hid hcs
  have b1 := (((Blk.new w 110 (stA kd x rs (.slice Af nf cf) (.slice Ap np cp))).alloc (.cells #[.int .i64 0, .int .i64 0, .int .i64 0, .slice none 0 0, .slice none 0 0, .int .i64 0, .int .i64 0, .int .i64 0, .int .i64 0, .int .i64 0, .int .i64 0, .int .i64 0, .int .i64 0, .int .i64 0, .bool false] 110)).alloc (.cells #[.int .i64 x.id, .int .i64 x.kind, .slice Af nf cf, .slice Ap np cp, .int .i64 x.par, .int .i64 (x.rt 0), .int .i64 (x.rt 1), .int .i64 (x.rt 2), .int .i64 (x.rt 3), .int .i64 (x.rt 4), .int .i64 (x.rt 5), .int .i64 (x.rt 6), .int .i64 (x.rt 7)] 49)).alloc (.cells #[.int .i64 kd, .int .i64 0, .int .i64 0, .slice none 0 0, .slice none 0 0, .int .i64 0, .int .i64 0, .int .i64 0, .int .i64 0, .int .i64 0, .int .i64 0, .int .i64 0, .int .i64 0, .int .i64 0, .bool false] 110)
  have b2 := ((Blk.new (w.alloc (.cells (stA kd x rs (.slice Af nf cf) (.slice Ap np cp)) 110)) 110 #[.int .i64 0, .int .i64 0, .int .i64 0, .slice none 0 0, .slice none 0 0, .int .i64 0, .int .i64 0, .int .i64 0, .int .i64 0, .int .i64 0, .int .i64 0, .int .i64 0, .int .i64 0, .int .i64 0, .bool false]).alloc (.cells #[.int .i64 x.id, .int .i64 x.kind, .slice Af nf cf, .slice Ap np cp, .int .i64 x.par, .int .i64 (x.rt 0), .int .i64 (x.rt 1), .int .i64 (x.rt 2), .int .i64 (x.rt 3), .int .i64 (x.rt 4), .int .i64 (x.rt 5), .int .i64 (x.rt 6), .int .i64 (x.rt 7)] 49)).alloc (.cells #[.int .i64 kd, .int .i64 0, .int .i64 0, .slice none 0 0, .slice none 0 0, .int .i64 0, .int .i64 0, .int .i64 0, .int .i64 0, .int .i64 0, .int .i64 0, .int .i64 0, .int .i64 0, .int .i64 0, .bool false] 110)
  have b3 := (Blk.new ((w.alloc (.cells (stA kd x rs (.slice Af nf cf) (.slice Ap np cp)) 110)).alloc (.cells #[.int .i64 0, .int .i64 0, .int .i64 0, .slice none 0 0, .slice none 0 0, .int .i64 0, .int .i64 0, .int .i64 0, .int .i64 0, .int .i64 0, .int .i64 0, .int .i64 0, .int .i64 0, .int .i64 0, .bool false] 110)) 49 #[.int .i64 x.id, .int .i64 x.kind, .slice Af nf cf, .slice Ap np cp, .int .i64 x.par, .int .i64 (x.rt 0), .int .i64 (x.rt 1), .int .i64 (x.rt 2), .int .i64 (x.rt 3), .int .i64 (x.rt 4), .int .i64 (x.rt 5), .int .i64 (x.rt 6), .int .i64 (x.rt 7)]).alloc (.cells #[.int .i64 kd, .int .i64 0, .int .i64 0, .slice none 0 0, .slice none 0 0, .int .i64 0, .int .i64 0, .int .i64 0, .int .i64 0, .int .i64 0, .int .i64 0, .int .i64 0, .int .i64 0, .int .i64 0, .bool false] 110)
  have b4 := Blk.new (((w.alloc (.cells (stA kd x rs (.slice Af nf cf) (.slice Ap np cp)) 110)).alloc (.cells #[.int .i64 0, .int .i64 0, .int .i64 0, .slice none 0 0, .slice none 0 0, .int .i64 0, .int .i64 0, .int .i64 0, .int .i64 0, .int .i64 0, .int .i64 0, .int .i64 0, .int .i64 0, .int .i64 0, .bool false] 110)).alloc (.cells #[.int .i64 x.id, .int .i64 x.kind, .slice Af nf cf, .slice Ap np cp, .int .i64 x.par, .int .i64 (x.rt 0), .int .i64 (x.rt 1), .int .i64 (x.rt 2), .int .i64 (x.rt 3), .int .i64 (x.rt 4), .int .i64 (x.rt 5), .int .i64 (x.rt 6), .int .i64 (x.rt 7)] 49)) 110 #[.int .i64 kd, .int .i64 0, .int .i64 0, .slice none 0 0, .slice none 0 0, .int .i64 0, .int .i64 0, .int .i64 0, .int .i64 0, .int .i64 0, .int .i64 0, .int .i64 0, .int .i64 0, .int .i64 0, .bool false]
  simp only [World.size_alloc] at b2 b3 b4
  have fA := (((((Fr.refl w.heap.size [] w).alloc (Nat.le_refl _) (.cells (stA kd x rs (.slice Af nf cf) (.slice Ap np cp)) 110)).alloc (by simp) (.cells #[.int .i64 0, .int .i64 0, .int .i64 0, .slice none 0 0, .slice none 0 0, .int .i64 0, .int .i64 0, .int .i64 0, .int .i64 0, .int .i64 0, .int .i64 0, .int .i64 0, .int .i64 0, .int .i64 0, .bool false] 110)).alloc (by simp; omega) (.cells #[.int .i64 x.id, .int .i64 x.kind, .slice Af nf cf, .slice Ap np cp, .int .i64 x.par, .int .i64 (x.rt 0), .int .i64 (x.rt 1), .int .i64 (x.rt 2), .int .i64 (x.rt 3), .int .i64 (x.rt 4), .int .i64 (x.rt 5), .int .i64 (x.rt 6), .int .i64 (x.rt 7)] 49)).alloc (by simp; omega) (.cells #[.int .i64 kd, .int .i64 0, .int .i64 0, .slice none 0 0, .slice none 0 0, .int .i64 0, .int .i64 0, .int .i64 0, .int .i64 0, .int .i64 0, .int .i64 0, .int .i64 0, .int .i64 0, .int .i64 0, .bool false] 110))
  have hsa : ((((w.alloc (.cells (stA kd x rs (.slice Af nf cf) (.slice Ap np cp)) 110)).alloc (.cells #[.int .i64 0, .int .i64 0, .int .i64 0, .slice none 0 0, .slice none 0 0, .int .i64 0, .int .i64 0, .int .i64 0, .int .i64 0, .int .i64 0, .int .i64 0, .int .i64 0, .int .i64 0, .int .i64 0, .bool false] 110)).alloc (.cells #[.int .i64 x.id, .int .i64 x.kind, .slice Af nf cf, .slice Ap np cp, .int .i64 x.par, .int .i64 (x.rt 0), .int .i64 (x.rt 1), .int .i64 (x.rt 2), .int .i64 (x.rt 3), .int .i64 (x.rt 4), .int .i64 (x.rt 5), .int .i64 (x.rt 6), .int .i64 (x.rt 7)] 49)).alloc (.cells #[.int .i64 kd, .int .i64 0, .int .i64 0, .slice none 0 0, .slice none 0 0, .int .i64 0, .int .i64 0, .int .i64 0, .int .i64 0, .int .i64 0, .int .i64 0, .int .i64 0, .int .i64 0, .int .i64 0, .bool false] 110)).heap.size = w.heap.size + 1 + 1 + 1 + 1 := by simp only [World.size_alloc]
  have B1 := Lib.hid b1
  have B2 := Lib.hid b2
  have B3 := Lib.hid b3
  have B4 := Lib.hid b4
  have FA := Lib.hid fA
  have HSA := Lib.hid hsa
  clear hf2 hp2 hnf hnp hcs hQ b1 b2 b3 b4 fA hsa
  go_enter Tryz.func85, Tryz.ntmps85
  go_upto_region 3 with fail
  generalize (((w.alloc (.cells (stA kd x rs (.slice Af nf cf) (.slice Ap np cp)) 110)).alloc (.cells #[.int .i64 0, .int .i64 0, .int .i64 0, .slice none 0 0, .slice none 0 0, .int .i64 0, .int .i64 0, .int .i64 0, .int .i64 0, .int .i64 0, .int .i64 0, .int .i64 0, .int .i64 0, .int .i64 0, .bool false] 110)).alloc (.cells #[.int .i64 x.id, .int .i64 x.kind, .slice Af nf cf, .slice Ap np cp, .int .i64 x.par, .int .i64 (x.rt 0), .int .i64 (x.rt 1), .int .i64 (x.rt 2), .int .i64 (x.rt 3), .int .i64 (x.rt 4), .int .i64 (x.rt 5), .int .i64 (x.rt 6), .int .i64 (x.rt 7)] 49)).alloc (.cells #[.int .i64 kd, .int .i64 0, .int .i64 0, .slice none 0 0, .slice none 0 0, .int .i64 0, .int .i64 0, .int .i64 0, .int .i64 0, .int .i64 0, .int .i64 0, .int .i64 0, .int .i64 0, .int .i64 0, .bool false] 110) = wa at *
  obtain ⟨g, hg⟩ : ∃ g, g = w.heap.size := ⟨_, rfl⟩
  rw [← hg] at B1 B2 B3 B4 HSA
  try rw [← hg]
  have HG := Lib.hid hg
  clear hg
  have k0 := B1.out.cell 0
  have k14 := B1.out.cell 14
  have n0 := B3.out.cell 0
  have n1 := B3.out.cell 1
  have n2 := B3.out.cell 2
  have n3 := B3.out.cell 3
  have n4 := B3.out.cell 4
  have n5 := B3.out.cell 5
  have n6 := B3.out.cell 6
  have n7 := B3.out.cell 7
  have n8 := B3.out.cell 8
  have n9 := B3.out.cell 9
  have n10 := B3.out.cell 10
  have n11 := B3.out.cell 11
  have n12 := B3.out.cell 12
  simp at k0 k14 n0 n1 n2 n3 n4 n5 n6 n7 n8 n9 n10 n11 n12
  have y1 := B4.out.frozen 1
  have y2 := B4.out.frozen 2
  have y3 := B4.out.frozen 3
  have y4 := B4.out.frozen 4
  have y5 := B4.out.frozen 5
  have y6 := B4.out.frozen 6
  have y7 := B4.out.frozen 7
  have y8 := B4.out.frozen 8
  have y9 := B4.out.frozen 9
  have y10 := B4.out.frozen 10
  have y11 := B4.out.frozen 11
  have y12 := B4.out.frozen 12
  have y13 := B4.out.frozen 13
  have y14 := B4.out.frozen 14
  have m1 := B4.out.cell 1
  have m2 := B4.out.cell 2
  have m3 := B4.out.cell 3
  have m4 := B4.out.cell 4
  have m5 := B4.out.cell 5
  have m6 := B4.out.cell 6
  have m7 := B4.out.cell 7
  have m8 := B4.out.cell 8
  have m9 := B4.out.cell 9
  have m10 := B4.out.cell 10
  have m11 := B4.out.cell 11
  have m12 := B4.out.cell 12
  have m13 := B4.out.cell 13
  have m14 := B4.out.cell 14
  simp at m1 m2 m3 m4 m5 m6 m7 m8 m9 m10 m11 m12 m13 m14
  by_cases e2 : kd = 2
  · subst e2
    obtain rfl : cs = ⟨2, x, false⟩ := by
      rw [HCS.out]
      unfold cleanS
      simp
    clear HCS
    have hnd := (Fr.refl wa.heap.size [] wa).alloc (Nat.le_refl _) (.cells #[.int .i64 x.id, .int .i64 x.kind, .slice Af nf cf, .slice Ap np cp, .int .i64 x.par, .int .i64 (x.rt 0), .int .i64 (x.rt 1), .int .i64 (x.rt 2), .int .i64 (x.rt 3), .int .i64 (x.rt 4), .int .i64 (x.rt 5), .int .i64 (x.rt 6), .int .i64 (x.rt 7)] 49)
    have hin : NdIn (wa.alloc (.cells #[.int .i64 x.id, .int .i64 x.kind, .slice Af nf cf, .slice Ap np cp, .int .i64 x.par, .int .i64 (x.rt 0), .int .i64 (x.rt 1), .int .i64 (x.rt 2), .int .i64 (x.rt 3), .int .i64 (x.rt 4), .int .i64 (x.rt 5), .int .i64 (x.rt 6), .int .i64 (x.rt 7)] 49)) B (x, .slice Af nf cf, .slice Ap np cp) := ⟨⟨Af, cf, by rw [HNF.out], by rw [← HNF.out]; exact (RF.out.fr FA.out hB (by simp)).fr hnd (Nat.le_trans hB FA.out.size) (by simp)⟩, ⟨Ap, cp, by rw [HNP.out], by rw [← HNP.out]; exact (RP.out.fr FA.out hB (by simp)).fr hnd (Nat.le_trans hB FA.out.size) (by simp)⟩⟩
    have hns : Nds (wa.alloc (.cells #[.int .i64 x.id, .int .i64 x.kind, .slice Af nf cf, .slice Ap np cp, .int .i64 x.par, .int .i64 (x.rt 0), .int .i64 (x.rt 1), .int .i64 (x.rt 2), .int .i64 (x.rt 3), .int .i64 (x.rt 4), .int .i64 (x.rt 5), .int .i64 (x.rt 6), .int .i64 (x.rt 7)] 49)) (wa.heap.size + 1) (some ⟨wa.heap.size, 0, none⟩) 1 [(x, .slice Af nf cf, .slice Ap np cp)] := ⟨rfl, by
      have := Reads.of_blk (size := 13) (m := 1) (Blk.new wa 49 #[.int .i64 x.id, .int .i64 x.kind, .slice Af nf cf, .slice Ap np cp, .int .i64 x.par, .int .i64 (x.rt 0), .int .i64 (x.rt 1), .int .i64 (x.rt 2), .int .i64 (x.rt 3), .int .i64 (x.rt 4), .int .i64 (x.rt 5), .int .i64 (x.rt 6), .int .i64 (x.rt 7)]) rfl
      exact this, fun m hm => by
      rw [List.mem_singleton.1 hm]
      exact hin.more (by have := FA.out.size; omega)⟩
    have HNM := Lib.hid (norm_any (some ⟨wa.heap.size, 0, none⟩) 1 (wa.heap.size + 1) 1 _ _ hns (by simp) ⟨by simp, fun m hm => by
      rw [List.mem_singleton.1 hm]
      exact ⟨by rw [← HNF.out]; exact h1, by rw [← HNP.out]; exact h2⟩⟩ (by omega))
    have HND := Lib.hid hnd
    clear hnd hin hns
    go_wp2_with fail
    refine HNM.out.mono ?_
    rintro e w5 ⟨A1, c1, n1, M1, hn1, rfl, ho1, hi1, hf1, f1⟩
    have hM : ∃ tf tp, M1 = [(x, tf, tp)] := by
      have e1 : fstN M1 = [x] := by rw [hf1]; exact normL_self (by simp [fstN])
      match M1, e1 with
      | [(y, a, b)], e1 =>
        simp only [fstN, List.map_cons, List.map_nil, List.cons.injEq, and_true] at e1
        subst e1
        exact ⟨a, b, rfl⟩
    obtain ⟨tf, tp, rfl⟩ := hM
    obtain rfl : n1 = 1 := hn1
    obtain ⟨gn, cap, hv, hbg, hlt⟩ := ho1.form (by omega)
    injection hv with hv1 _ hv3
    subst hv1
    subst hv3
    obtain ⟨⟨⟨A2, c2, hq1, hq2⟩, ⟨A3, c3, hq3, hq4⟩⟩, _, _, ff1, ff2⟩ := hi1 (x, tf, tp) List.mem_cons_self
    simp only at hq1 hq3 ff1 ff2 hq2 hq4
    subst hq1
    subst hq3
    have f5 : Fr wa.heap.size [] wa w5 := HND.out.trans (f1.mono (B' := wa.heap.size) (L' := []) HND.out.size (by simp))
    have B45 := Lib.hid (B4.out.fr f5 B4.out.lt (by simp))
    have B25 := Lib.hid (B2.out.fr f5 B2.out.lt (by simp))
    have F5 := Lib.hid (FA.out.trans (f5.mono (B' := w.heap.size) (L' := []) FA.out.size (by simp)))
    have NI5 := Lib.hid (show NdIn w5 w5.heap.size (x, .slice A2 x.fr.length c2, .slice A3 x.pg.length c3) from ⟨⟨A2, c2, rfl, hq2⟩, ⟨A3, c3, rfl, hq4⟩⟩)
    have hgz : g + 4 ≤ (wa.alloc (.cells #[.int .i64 x.id, .int .i64 x.kind, .slice Af nf cf, .slice Ap np cp, .int .i64 x.par, .int .i64 (x.rt 0), .int .i64 (x.rt 1), .int .i64 (x.rt 2), .int .i64 (x.rt 3), .int .i64 (x.rt 4), .int .i64 (x.rt 5), .int .i64 (x.rt 6), .int .i64 (x.rt 7)] 49)).heap.size := by have := HSA.out; simp; omega
    have FF := Lib.hid (fresh_le ff1 hgz)
    have FP := Lib.hid (fresh_le ff2 hgz)
    have r0 := nd_cell ho1 (k := 0) rfl 0 (.int .i64 x.id) rfl
    have r1 := nd_cell ho1 (k := 0) rfl 1 (.int .i64 x.kind) rfl
    have r2 := nd_cell ho1 (k := 0) rfl 2 (.slice A2 x.fr.length c2) rfl
    have r3 := nd_cell ho1 (k := 0) rfl 3 (.slice A3 x.pg.length c3) rfl
    have r4 := nd_cell ho1 (k := 0) rfl 4 (.int .i64 x.par) rfl
    have r5 := nd_cell ho1 (k := 0) rfl 5 (.int .i64 (x.rt 0)) rfl
    have r6 := nd_cell ho1 (k := 0) rfl 6 (.int .i64 (x.rt 1)) rfl
    have r7 := nd_cell ho1 (k := 0) rfl 7 (.int .i64 (x.rt 2)) rfl
    have r8 := nd_cell ho1 (k := 0) rfl 8 (.int .i64 (x.rt 3)) rfl
    have r9 := nd_cell ho1 (k := 0) rfl 9 (.int .i64 (x.rt 4)) rfl
    have r10 := nd_cell ho1 (k := 0) rfl 10 (.int .i64 (x.rt 5)) rfl
    have r11 := nd_cell ho1 (k := 0) rfl 11 (.int .i64 (x.rt 6)) rfl
    have r12 := nd_cell ho1 (k := 0) rfl 12 (.int .i64 (x.rt 7)) rfl
    simp at r0 r1 r2 r3 r4 r5 r6 r7 r8 r9 r10 r11 r12
    clear ho1 hi1 hf1 f1 hbg hlt ff1 ff2 hq2 hq4 hgz f5 HNM k0 k14 n0 n1 n2 n3 n4 n5 n6 n7 n8 n9 n10 n11 n12 y1 m1 y2 m2 y3 m3 y4 m4 y5 m5 y6 m6 y7 m7 y8 m8 y9 m9 y10 m10 y11 m11 y12 m12 y13 m13 y14 m14
    have y1 := B45.out.frozen 1
    have y2 := B45.out.frozen 2
    have y3 := B45.out.frozen 3
    have y4 := B45.out.frozen 4
    have y5 := B45.out.frozen 5
    have y6 := B45.out.frozen 6
    have y7 := B45.out.frozen 7
    have y8 := B45.out.frozen 8
    have y9 := B45.out.frozen 9
    have y10 := B45.out.frozen 10
    have y11 := B45.out.frozen 11
    have y12 := B45.out.frozen 12
    have y13 := B45.out.frozen 13
    have m1 := B45.out.cell 1
    have m2 := B45.out.cell 2
    have m3 := B45.out.cell 3
    have m4 := B45.out.cell 4
    have m5 := B45.out.cell 5
    have m6 := B45.out.cell 6
    have m7 := B45.out.cell 7
    have m8 := B45.out.cell 8
    have m9 := B45.out.cell 9
    have m10 := B45.out.cell 10
    have m11 := B45.out.cell 11
    have m12 := B45.out.cell 12
    have m13 := B45.out.cell 13
    simp at m1 m2 m3 m4 m5 m6 m7 m8 m9 m10 m11 m12 m13
    go_upto_region 15 with fail
    generalize hwz : World.setCell _ _ _ = wz
    have d4 := blk_setL ([.int .i64 x.id, .int .i64 x.kind, (.slice A2 x.fr.length c2), (.slice A3 x.pg.length c3), .int .i64 x.par, .int .i64 (x.rt 0), .int .i64 (x.rt 1), .int .i64 (x.rt 2), .int .i64 (x.rt 3), .int .i64 (x.rt 4), .int .i64 (x.rt 5), .int .i64 (x.rt 6), .int .i64 (x.rt 7)]) 1 B45.out
    simp only [putL, List.setIfInBounds_toArray, List.set_cons_succ, List.set_cons_zero, Nat.reduceAdd] at d4
    have d2 := far_setL (g := g + 1 + 1 + 1) (by omega) ([.int .i64 x.id, .int .i64 x.kind, (.slice A2 x.fr.length c2), (.slice A3 x.pg.length c3), .int .i64 x.par, .int .i64 (x.rt 0), .int .i64 (x.rt 1), .int .i64 (x.rt 2), .int .i64 (x.rt 3), .int .i64 (x.rt 4), .int .i64 (x.rt 5), .int .i64 (x.rt 6), .int .i64 (x.rt 7)]) 1 B25.out
    have fz := fr_setL (g := g + 1 + 1 + 1) (.inl (by have := HG.out; omega)) ([.int .i64 x.id, .int .i64 x.kind, (.slice A2 x.fr.length c2), (.slice A3 x.pg.length c3), .int .i64 x.par, .int .i64 (x.rt 0), .int .i64 (x.rt 1), .int .i64 (x.rt 2), .int .i64 (x.rt 3), .int .i64 (x.rt 4), .int .i64 (x.rt 5), .int .i64 (x.rt 6), .int .i64 (x.rt 7)]) 1 F5.out
    have fs := fr_setL (g := g + 1 + 1 + 1) (.inr (by simp)) ([.int .i64 x.id, .int .i64 x.kind, (.slice A2 x.fr.length c2), (.slice A3 x.pg.length c3), .int .i64 x.par, .int .i64 (x.rt 0), .int .i64 (x.rt 1), .int .i64 (x.rt 2), .int .i64 (x.rt 3), .int .i64 (x.rt 4), .int .i64 (x.rt 5), .int .i64 (x.rt 6), .int .i64 (x.rt 7)]) 1 (Fr.refl w5.heap.size [g + 1 + 1 + 1] w5)
    have D4 := Lib.hid (by rw [← hwz]; exact d4 : Blk wz (g + 1 + 1 + 1) 110 _)
    have D2 := Lib.hid (by rw [← hwz]; exact d2 : Blk wz (g + 1) 110 _)
    have FZ := Lib.hid (by rw [← hwz]; exact fz : Fr w.heap.size [] w wz)
    have FS := Lib.hid (by rw [← hwz]; exact fs : Fr w5.heap.size [g + 1 + 1 + 1] w5 wz)
    clear hwz d4 d2 fz fs
    have NIN := Lib.hid ((ndin_fresh NI5.out FF.out FP.out FS.out (Nat.le_refl _) (by intro k hk; simp at hk; omega)).more FS.out.size)
    clear FS NI5 y1 m1 y2 m2 y3 m3 y4 m4 y5 m5 y6 m6 y7 m7 y8 m8 y9 m9 y10 m10 y11 m11 y12 m12 y13 m13 r0 r1 r2 r3 r4 r5 r6 r7 r8 r9 r10 r11 r12
    have q0 := D4.out.cell 0
    have q1 := D4.out.cell 1
    have q2 := D4.out.cell 2
    have q3 := D4.out.cell 3
    have q4 := D4.out.cell 4
    have q5 := D4.out.cell 5
    have q6 := D4.out.cell 6
    have q7 := D4.out.cell 7
    have q8 := D4.out.cell 8
    have q9 := D4.out.cell 9
    have q10 := D4.out.cell 10
    have q11 := D4.out.cell 11
    have q12 := D4.out.cell 12
    have q13 := D4.out.cell 13
    have q14 := D4.out.cell 14
    simp at q0 q1 q2 q3 q4 q5 q6 q7 q8 q9 q10 q11 q12 q13 q14
    have z0 := D2.out.frozen 0
    have z1 := D2.out.frozen 1
    have z2 := D2.out.frozen 2
    have z3 := D2.out.frozen 3
    have z4 := D2.out.frozen 4
    have z5 := D2.out.frozen 5
    have z6 := D2.out.frozen 6
    have z7 := D2.out.frozen 7
    have z8 := D2.out.frozen 8
    have z9 := D2.out.frozen 9
    have z10 := D2.out.frozen 10
    have z11 := D2.out.frozen 11
    have z12 := D2.out.frozen 12
    have z13 := D2.out.frozen 13
    have z14 := D2.out.frozen 14
    have s0 := D2.out.cell 0
    have s1 := D2.out.cell 1
    have s2 := D2.out.cell 2
    have s3 := D2.out.cell 3
    have s4 := D2.out.cell 4
    have s5 := D2.out.cell 5
    have s6 := D2.out.cell 6
    have s7 := D2.out.cell 7
    have s8 := D2.out.cell 8
    have s9 := D2.out.cell 9
    have s10 := D2.out.cell 10
    have s11 := D2.out.cell 11
    have s12 := D2.out.cell 12
    have s13 := D2.out.cell 13
    have s14 := D2.out.cell 14
    simp at s0 s1 s2 s3 s4 s5 s6 s7 s8 s9 s10 s11 s12 s13 s14
    go_wp2_with fail
    have be := blk_setL ([.int .i64 2, .int .i64 x.id, .int .i64 x.kind, (.slice A2 x.fr.length c2), (.slice A3 x.pg.length c3), .int .i64 x.par, .int .i64 (x.rt 0), .int .i64 (x.rt 1), .int .i64 (x.rt 2), .int .i64 (x.rt 3), .int .i64 (x.rt 4), .int .i64 (x.rt 5), .int .i64 (x.rt 6), .int .i64 (x.rt 7), .bool false]) 0 D2.out
    simp only [putL, List.setIfInBounds_toArray, List.set_cons_succ, List.set_cons_zero, Nat.reduceAdd] at be
    have BE := Lib.hid be
    clear be
    have fe := fr_setL (g := g + 1) (.inr (by simp)) ([.int .i64 2, .int .i64 x.id, .int .i64 x.kind, (.slice A2 x.fr.length c2), (.slice A3 x.pg.length c3), .int .i64 x.par, .int .i64 (x.rt 0), .int .i64 (x.rt 1), .int .i64 (x.rt 2), .int .i64 (x.rt 3), .int .i64 (x.rt 4), .int .i64 (x.rt 5), .int .i64 (x.rt 6), .int .i64 (x.rt 7), .bool false]) 0 (Fr.refl wz.heap.size [g + 1] wz)
    have FE := Lib.hid (FZ.out.trans (fe.mono (B' := w.heap.size) (L' := []) FZ.out.size (by intro k hk hlt; have := HG.out; simp at hk; omega)))
    have NE := Lib.hid ((ndin_fresh NIN.out FF.out FP.out fe (Nat.le_refl _) (by intro k hk; simp at hk; omega)).more fe.size)
    refine bodyPost_ret (results_cell_row rfl _ _ (g + 1) 110 (stV (⟨2, x, false⟩ : Stp) (.slice A2 x.fr.length c2) (.slice A3 x.pg.length c3)) (0, 0) _ rfl BE.out Tryz.underlying110 rfl (by kernel_rfl)) rfl (HOUT.out (.slice A2 x.fr.length c2) (.slice A3 x.pg.length c3) _ NE.out (fresh_le FF.out (by have := HG.out; omega)) (fresh_le FP.out (by have := HG.out; omega)) FE.out)
  · exact absurd HKD.out e2
set_option maxRecDepth 100000 in
set_option maxHeartbeats 16000000 in
theorem clean_3 (kd : Int) (x : Nd) (rs : Bool) (sf sp : Value) (B : Nat) (w : World) (hkd : kd = 3) (h : NdIn w B (x, sf, sp)) (hB : B ≤ w.heap.size) (h1 : x.fr.length ≤ 1000000) (h2 : x.pg.length ≤ 1000000) :
    Calls Tryz.prog 85 #[.agg (stA kd x rs sf sp)] w (CleanOut ⟨kd, x, rs⟩ w) := by
  have HKD := Lib.hid hkd
  clear hkd
  obtain ⟨⟨Af, cf, hf1, hf2⟩, ⟨Ap, cp, hp1, hp2⟩⟩ := h
  simp only at hf1 hf2 hp1 hp2
  subst hf1
  subst hp1
  obtain ⟨nf, hnf⟩ : ∃ z, z = x.fr.length := ⟨_, rfl⟩
  obtain ⟨np, hnp⟩ : ∃ z, z = x.pg.length := ⟨_, rfl⟩
  have RP := Lib.hid hp2
  have RF := Lib.hid hf2
  rw [← hnf] at RF h1 ⊢
  rw [← hnp] at RP h2 ⊢
  have HNF := Lib.hid hnf
  have HNP := Lib.hid hnp
  obtain ⟨cs, hcs⟩ : ∃ c, c = cleanS ⟨kd, x, rs⟩ := ⟨_, rfl⟩
  obtain ⟨Q, hQ⟩ : ∃ Q, Q = CleanOut ⟨kd, x, rs⟩ w := ⟨_, rfl⟩
  rw [← hQ]
  have HOUT := Lib.hid (fun (tf tp : Value) (w' : World) (ha : NdIn w' w'.heap.size (cs.nd, tf, tp)) (hb : Fresh w.heap.size tf) (hc : Fresh w.heap.size tp) (hd : Fr w.heap.size [] w w') => (by
    rw [hQ]
    unfold CleanOut
    rw [← hcs]
    exact ⟨tf, tp, rfl, ha, hb, hc, hd⟩ : Q (.returned (.agg (stV cs tf tp))) w'))
  have HCS := Lib.hid hcs
  have b1 := (((Blk.new w 110 (stA kd x rs (.slice Af nf cf) (.slice Ap np cp))).alloc (.cells #[.int .i64 0, .int .i64 0, .int .i64 0, .slice none 0 0, .slice none 0 0, .int .i64 0, .int .i64 0, .int .i64 0, .int .i64 0, .int .i64 0, .int .i64 0, .int .i64 0, .int .i64 0, .int .i64 0, .bool false] 110)).alloc (.cells #[.int .i64 x.id, .int .i64 x.kind, .slice Af nf cf, .slice Ap np cp, .int .i64 x.par, .int .i64 (x.rt 0), .int .i64 (x.rt 1), .int .i64 (x.rt 2), .int .i64 (x.rt 3), .int .i64 (x.rt 4), .int .i64 (x.rt 5), .int .i64 (x.rt 6), .int .i64 (x.rt 7)] 49)).alloc (.cells #[.int .i64 kd, .int .i64 0, .int .i64 0, .slice none 0 0, .slice none 0 0, .int .i64 0, .int .i64 0, .int .i64 0, .int .i64 0, .int .i64 0, .int .i64 0, .int .i64 0, .int .i64 0, .int .i64 0, .bool false] 110)
  have b2 := ((Blk.new (w.alloc (.cells (stA kd x rs (.slice Af nf cf) (.slice Ap np cp)) 110)) 110 #[.int .i64 0, .int .i64 0, .int .i64 0, .slice none 0 0, .slice none 0 0, .int .i64 0, .int .i64 0, .int .i64 0, .int .i64 0, .int .i64 0, .int .i64 0, .int .i64 0, .int .i64 0, .int .i64 0, .bool false]).alloc (.cells #[.int .i64 x.id, .int .i64 x.kind, .slice Af nf cf, .slice Ap np cp, .int .i64 x.par, .int .i64 (x.rt 0), .int .i64 (x.rt 1), .int .i64 (x.rt 2), .int .i64 (x.rt 3), .int .i64 (x.rt 4), .int .i64 (x.rt 5), .int .i64 (x.rt 6), .int .i64 (x.rt 7)] 49)).alloc (.cells #[.int .i64 kd, .int .i64 0, .int .i64 0, .slice none 0 0, .slice none 0 0, .int .i64 0, .int .i64 0, .int .i64 0, .int .i64 0, .int .i64 0, .int .i64 0, .int .i64 0, .int .i64 0, .int .i64 0, .bool false] 110)
  have b3 := (Blk.new ((w.alloc (.cells (stA kd x rs (.slice Af nf cf) (.slice Ap np cp)) 110)).alloc (.cells #[.int .i64 0, .int .i64 0, .int .i64 0, .slice none 0 0, .slice none 0 0, .int .i64 0, .int .i64 0, .int .i64 0, .int .i64 0, .int .i64 0, .int .i64 0, .int .i64 0, .int .i64 0, .int .i64 0, .bool false] 110)) 49 #[.int .i64 x.id, .int .i64 x.kind, .slice Af nf cf, .slice Ap np cp, .int .i64 x.par, .int .i64 (x.rt 0), .int .i64 (x.rt 1), .int .i64 (x.rt 2), .int .i64 (x.rt 3), .int .i64 (x.rt 4), .int .i64 (x.rt 5), .int .i64 (x.rt 6), .int .i64 (x.rt 7)]).alloc (.cells #[.int .i64 kd, .int .i64 0, .int .i64 0, .slice none 0 0, .slice none 0 0, .int .i64 0, .int .i64 0, .int .i64 0, .int .i64 0, .int .i64 0, .int .i64 0, .int .i64 0, .int .i64 0, .int .i64 0, .bool false] 110)
  have b4 := Blk.new (((w.alloc (.cells (stA kd x rs (.slice Af nf cf) (.slice Ap np cp)) 110)).alloc (.cells #[.int .i64 0, .int .i64 0, .int .i64 0, .slice none 0 0, .slice none 0 0, .int .i64 0, .int .i64 0, .int .i64 0, .int .i64 0, .int .i64 0, .int .i64 0, .int .i64 0, .int .i64 0, .int .i64 0, .bool false] 110)).alloc (.cells #[.int .i64 x.id, .int .i64 x.kind, .slice Af nf cf, .slice Ap np cp, .int .i64 x.par, .int .i64 (x.rt 0), .int .i64 (x.rt 1), .int .i64 (x.rt 2), .int .i64 (x.rt 3), .int .i64 (x.rt 4), .int .i64 (x.rt 5), .int .i64 (x.rt 6), .int .i64 (x.rt 7)] 49)) 110 #[.int .i64 kd, .int .i64 0, .int .i64 0, .slice none 0 0, .slice none 0 0, .int .i64 0, .int .i64 0, .int .i64 0, .int .i64 0, .int .i64 0, .int .i64 0, .int .i64 0, .int .i64 0, .int .i64 0, .bool false]
  simp only [World.size_alloc] at b2 b3 b4
  have fA := (((((Fr.refl w.heap.size [] w).alloc (Nat.le_refl _) (.cells (stA kd x rs (.slice Af nf cf) (.slice Ap np cp)) 110)).alloc (by simp) (.cells #[.int .i64 0, .int .i64 0, .int .i64 0, .slice none 0 0, .slice none 0 0, .int .i64 0, .int .i64 0, .int .i64 0, .int .i64 0, .int .i64 0, .int .i64 0, .int .i64 0, .int .i64 0, .int .i64 0, .bool false] 110)).alloc (by simp; omega) (.cells #[.int .i64 x.id, .int .i64 x.kind, .slice Af nf cf, .slice Ap np cp, .int .i64 x.par, .int .i64 (x.rt 0), .int .i64 (x.rt 1), .int .i64 (x.rt 2), .int .i64 (x.rt 3), .int .i64 (x.rt 4), .int .i64 (x.rt 5), .int .i64 (x.rt 6), .int .i64 (x.rt 7)] 49)).alloc (by simp; omega) (.cells #[.int .i64 kd, .int .i64 0, .int .i64 0, .slice none 0 0, .slice none 0 0, .int .i64 0, .int .i64 0, .int .i64 0, .int .i64 0, .int .i64 0, .int .i64 0, .int .i64 0, .int .i64 0, .int .i64 0, .bool false] 110))
  have hsa : ((((w.alloc (.cells (stA kd x rs (.slice Af nf cf) (.slice Ap np cp)) 110)).alloc (.cells #[.int .i64 0, .int .i64 0, .int .i64 0, .slice none 0 0, .slice none 0 0, .int .i64 0, .int .i64 0, .int .i64 0, .int .i64 0, .int .i64 0, .int .i64 0, .int .i64 0, .int .i64 0, .int .i64 0, .bool false] 110)).alloc (.cells #[.int .i64 x.id, .int .i64 x.kind, .slice Af nf cf, .slice Ap np cp, .int .i64 x.par, .int .i64 (x.rt 0), .int .i64 (x.rt 1), .int .i64 (x.rt 2), .int .i64 (x.rt 3), .int .i64 (x.rt 4), .int .i64 (x.rt 5), .int .i64 (x.rt 6), .int .i64 (x.rt 7)] 49)).alloc (.cells #[.int .i64 kd, .int .i64 0, .int .i64 0, .slice none 0 0, .slice none 0 0, .int .i64 0, .int .i64 0, .int .i64 0, .int .i64 0, .int .i64 0, .int .i64 0, .int .i64 0, .int .i64 0, .int .i64 0, .bool false] 110)).heap.size = w.heap.size + 1 + 1 + 1 + 1 := by simp only [World.size_alloc]
  have B1 := Lib.hid b1
  have B2 := Lib.hid b2
  have B3 := Lib.hid b3
  have B4 := Lib.hid b4
  have FA := Lib.hid fA
  have HSA := Lib.hid hsa
  clear hf2 hp2 hnf hnp hcs hQ b1 b2 b3 b4 fA hsa
  go_enter Tryz.func85, Tryz.ntmps85
  go_upto_region 3 with fail
  generalize (((w.alloc (.cells (stA kd x rs (.slice Af nf cf) (.slice Ap np cp)) 110)).alloc (.cells #[.int .i64 0, .int .i64 0, .int .i64 0, .slice none 0 0, .slice none 0 0, .int .i64 0, .int .i64 0, .int .i64 0, .int .i64 0, .int .i64 0, .int .i64 0, .int .i64 0, .int .i64 0, .int .i64 0, .bool false] 110)).alloc (.cells #[.int .i64 x.id, .int .i64 x.kind, .slice Af nf cf, .slice Ap np cp, .int .i64 x.par, .int .i64 (x.rt 0), .int .i64 (x.rt 1), .int .i64 (x.rt 2), .int .i64 (x.rt 3), .int .i64 (x.rt 4), .int .i64 (x.rt 5), .int .i64 (x.rt 6), .int .i64 (x.rt 7)] 49)).alloc (.cells #[.int .i64 kd, .int .i64 0, .int .i64 0, .slice none 0 0, .slice none 0 0, .int .i64 0, .int .i64 0, .int .i64 0, .int .i64 0, .int .i64 0, .int .i64 0, .int .i64 0, .int .i64 0, .int .i64 0, .bool false] 110) = wa at *
  obtain ⟨g, hg⟩ : ∃ g, g = w.heap.size := ⟨_, rfl⟩
  rw [← hg] at B1 B2 B3 B4 HSA
  try rw [← hg]
  have HG := Lib.hid hg
  clear hg
  have k0 := B1.out.cell 0
  have k14 := B1.out.cell 14
  have n0 := B3.out.cell 0
  have n1 := B3.out.cell 1
  have n2 := B3.out.cell 2
  have n3 := B3.out.cell 3
  have n4 := B3.out.cell 4
  have n5 := B3.out.cell 5
  have n6 := B3.out.cell 6
  have n7 := B3.out.cell 7
  have n8 := B3.out.cell 8
  have n9 := B3.out.cell 9
  have n10 := B3.out.cell 10
  have n11 := B3.out.cell 11
  have n12 := B3.out.cell 12
  simp at k0 k14 n0 n1 n2 n3 n4 n5 n6 n7 n8 n9 n10 n11 n12
  have y1 := B4.out.frozen 1
  have y2 := B4.out.frozen 2
  have y3 := B4.out.frozen 3
  have y4 := B4.out.frozen 4
  have y5 := B4.out.frozen 5
  have y6 := B4.out.frozen 6
  have y7 := B4.out.frozen 7
  have y8 := B4.out.frozen 8
  have y9 := B4.out.frozen 9
  have y10 := B4.out.frozen 10
  have y11 := B4.out.frozen 11
  have y12 := B4.out.frozen 12
  have y13 := B4.out.frozen 13
  have y14 := B4.out.frozen 14
  have m1 := B4.out.cell 1
  have m2 := B4.out.cell 2
  have m3 := B4.out.cell 3
  have m4 := B4.out.cell 4
  have m5 := B4.out.cell 5
  have m6 := B4.out.cell 6
  have m7 := B4.out.cell 7
  have m8 := B4.out.cell 8
  have m9 := B4.out.cell 9
  have m10 := B4.out.cell 10
  have m11 := B4.out.cell 11
  have m12 := B4.out.cell 12
  have m13 := B4.out.cell 13
  have m14 := B4.out.cell 14
  simp at m1 m2 m3 m4 m5 m6 m7 m8 m9 m10 m11 m12 m13 m14
  by_cases e3 : kd = 3
  · subst e3
    obtain rfl : cs = ⟨3, ⟨x.id, 0, 0, [], [], fun _ => 0⟩, false⟩ := by
      rw [HCS.out]
      unfold cleanS
      simp
    clear HCS
    go_upto_region 15 with fail
    have d4 := B4.out.set_ 1 (.int .i64 x.id)
    simp only [List.setIfInBounds_toArray, List.set_cons_succ, List.set_cons_zero] at d4
    have D4 := Lib.hid d4
    clear d4
    have D2 := Lib.hid (B2.out.far (p := ⟨g + 1 + 1 + 1, 1, none⟩) (by simp) (.int .i64 x.id))
    have FZ := Lib.hid (FA.out.setCell (p := ⟨g + 1 + 1 + 1, 1, none⟩) (.inl (by have := HG.out; simp; omega)) (.int .i64 x.id))
    generalize wa.setCell ⟨g + 1 + 1 + 1, 1, none⟩ (.int .i64 x.id) = wz at *
    have NIN := Lib.hid (nd_bare wz wz.heap.size (⟨x.id, 0, 0, [], [], fun _ => 0⟩ : Nd) rfl rfl)
    have FF := Lib.hid (fresh_nil (g + 4))
    have FP := Lib.hid (fresh_nil (g + 4))
    clear y1 m1 y2 m2 y3 m3 y4 m4 y5 m5 y6 m6 y7 m7 y8 m8 y9 m9 y10 m10 y11 m11 y12 m12 y13 m13 y14 m14 n0 n1 n2 n3 n4 n5 n6 n7 n8 n9 n10 n11 n12 k0 k14
    have q0 := D4.out.cell 0
    have q1 := D4.out.cell 1
    have q2 := D4.out.cell 2
    have q3 := D4.out.cell 3
    have q4 := D4.out.cell 4
    have q5 := D4.out.cell 5
    have q6 := D4.out.cell 6
    have q7 := D4.out.cell 7
    have q8 := D4.out.cell 8
    have q9 := D4.out.cell 9
    have q10 := D4.out.cell 10
    have q11 := D4.out.cell 11
    have q12 := D4.out.cell 12
    have q13 := D4.out.cell 13
    have q14 := D4.out.cell 14
    simp at q0 q1 q2 q3 q4 q5 q6 q7 q8 q9 q10 q11 q12 q13 q14
    have z0 := D2.out.frozen 0
    have z1 := D2.out.frozen 1
    have z2 := D2.out.frozen 2
    have z3 := D2.out.frozen 3
    have z4 := D2.out.frozen 4
    have z5 := D2.out.frozen 5
    have z6 := D2.out.frozen 6
    have z7 := D2.out.frozen 7
    have z8 := D2.out.frozen 8
    have z9 := D2.out.frozen 9
    have z10 := D2.out.frozen 10
    have z11 := D2.out.frozen 11
    have z12 := D2.out.frozen 12
    have z13 := D2.out.frozen 13
    have z14 := D2.out.frozen 14
    have s0 := D2.out.cell 0
    have s1 := D2.out.cell 1
    have s2 := D2.out.cell 2
    have s3 := D2.out.cell 3
    have s4 := D2.out.cell 4
    have s5 := D2.out.cell 5
    have s6 := D2.out.cell 6
    have s7 := D2.out.cell 7
    have s8 := D2.out.cell 8
    have s9 := D2.out.cell 9
    have s10 := D2.out.cell 10
    have s11 := D2.out.cell 11
    have s12 := D2.out.cell 12
    have s13 := D2.out.cell 13
    have s14 := D2.out.cell 14
    simp at s0 s1 s2 s3 s4 s5 s6 s7 s8 s9 s10 s11 s12 s13 s14
    go_wp2_with fail
    have be := blk_setL ([.int .i64 3, .int .i64 x.id, .int .i64 0, (.slice none 0 0), (.slice none 0 0), .int .i64 0, .int .i64 (0 : Int), .int .i64 (0 : Int), .int .i64 (0 : Int), .int .i64 (0 : Int), .int .i64 (0 : Int), .int .i64 (0 : Int), .int .i64 (0 : Int), .int .i64 (0 : Int), .bool false]) 0 D2.out
    simp only [putL, List.setIfInBounds_toArray, List.set_cons_succ, List.set_cons_zero, Nat.reduceAdd] at be
    have BE := Lib.hid be
    clear be
    have fe := fr_setL (g := g + 1) (.inr (by simp)) ([.int .i64 3, .int .i64 x.id, .int .i64 0, (.slice none 0 0), (.slice none 0 0), .int .i64 0, .int .i64 (0 : Int), .int .i64 (0 : Int), .int .i64 (0 : Int), .int .i64 (0 : Int), .int .i64 (0 : Int), .int .i64 (0 : Int), .int .i64 (0 : Int), .int .i64 (0 : Int), .bool false]) 0 (Fr.refl wz.heap.size [g + 1] wz)
    have FE := Lib.hid (FZ.out.trans (fe.mono (B' := w.heap.size) (L' := []) FZ.out.size (by intro k hk hlt; have := HG.out; simp at hk; omega)))
    have NE := Lib.hid ((ndin_fresh NIN.out FF.out FP.out fe (Nat.le_refl _) (by intro k hk; simp at hk; omega)).more fe.size)
    refine bodyPost_ret (results_cell_row rfl _ _ (g + 1) 110 (stV (⟨3, ⟨x.id, 0, 0, [], [], fun _ => 0⟩, false⟩ : Stp) (.slice none 0 0) (.slice none 0 0)) (0, 0) _ rfl BE.out Tryz.underlying110 rfl (by kernel_rfl)) rfl (HOUT.out (.slice none 0 0) (.slice none 0 0) _ NE.out (fresh_le FF.out (by have := HG.out; omega)) (fresh_le FP.out (by have := HG.out; omega)) FE.out)
  · exact absurd HKD.out e3
set_option maxRecDepth 100000 in
set_option maxHeartbeats 16000000 in
theorem clean_4 (kd : Int) (x : Nd) (rs : Bool) (sf sp : Value) (B : Nat) (w : World) (hkd : kd = 4) (h : NdIn w B (x, sf, sp)) (hB : B ≤ w.heap.size) (h1 : x.fr.length ≤ 1000000) (h2 : x.pg.length ≤ 1000000) :
    Calls Tryz.prog 85 #[.agg (stA kd x rs sf sp)] w (CleanOut ⟨kd, x, rs⟩ w) := by
  have HKD := Lib.hid hkd
  clear hkd
  obtain ⟨⟨Af, cf, hf1, hf2⟩, ⟨Ap, cp, hp1, hp2⟩⟩ := h
  simp only at hf1 hf2 hp1 hp2
  subst hf1
  subst hp1
  obtain ⟨nf, hnf⟩ : ∃ z, z = x.fr.length := ⟨_, rfl⟩
  obtain ⟨np, hnp⟩ : ∃ z, z = x.pg.length := ⟨_, rfl⟩
  have RP := Lib.hid hp2
  have RF := Lib.hid hf2
  rw [← hnf] at RF h1 ⊢
  rw [← hnp] at RP h2 ⊢
  have HNF := Lib.hid hnf
  have HNP := Lib.hid hnp
  obtain ⟨cs, hcs⟩ : ∃ c, c = cleanS ⟨kd, x, rs⟩ := ⟨_, rfl⟩
  obtain ⟨Q, hQ⟩ : ∃ Q, Q = CleanOut ⟨kd, x, rs⟩ w := ⟨_, rfl⟩
  rw [← hQ]
  have HOUT := Lib.hid (fun (tf tp : Value) (w' : World) (ha : NdIn w' w'.heap.size (cs.nd, tf, tp)) (hb : Fresh w.heap.size tf) (hc : Fresh w.heap.size tp) (hd : Fr w.heap.size [] w w') => (by
    rw [hQ]
    unfold CleanOut
    rw [← hcs]
    exact ⟨tf, tp, rfl, ha, hb, hc, hd⟩ : Q (.returned (.agg (stV cs tf tp))) w'))
  have HCS := Lib.hid hcs
  have b1 := (((Blk.new w 110 (stA kd x rs (.slice Af nf cf) (.slice Ap np cp))).alloc (.cells #[.int .i64 0, .int .i64 0, .int .i64 0, .slice none 0 0, .slice none 0 0, .int .i64 0, .int .i64 0, .int .i64 0, .int .i64 0, .int .i64 0, .int .i64 0, .int .i64 0, .int .i64 0, .int .i64 0, .bool false] 110)).alloc (.cells #[.int .i64 x.id, .int .i64 x.kind, .slice Af nf cf, .slice Ap np cp, .int .i64 x.par, .int .i64 (x.rt 0), .int .i64 (x.rt 1), .int .i64 (x.rt 2), .int .i64 (x.rt 3), .int .i64 (x.rt 4), .int .i64 (x.rt 5), .int .i64 (x.rt 6), .int .i64 (x.rt 7)] 49)).alloc (.cells #[.int .i64 kd, .int .i64 0, .int .i64 0, .slice none 0 0, .slice none 0 0, .int .i64 0, .int .i64 0, .int .i64 0, .int .i64 0, .int .i64 0, .int .i64 0, .int .i64 0, .int .i64 0, .int .i64 0, .bool false] 110)
  have b2 := ((Blk.new (w.alloc (.cells (stA kd x rs (.slice Af nf cf) (.slice Ap np cp)) 110)) 110 #[.int .i64 0, .int .i64 0, .int .i64 0, .slice none 0 0, .slice none 0 0, .int .i64 0, .int .i64 0, .int .i64 0, .int .i64 0, .int .i64 0, .int .i64 0, .int .i64 0, .int .i64 0, .int .i64 0, .bool false]).alloc (.cells #[.int .i64 x.id, .int .i64 x.kind, .slice Af nf cf, .slice Ap np cp, .int .i64 x.par, .int .i64 (x.rt 0), .int .i64 (x.rt 1), .int .i64 (x.rt 2), .int .i64 (x.rt 3), .int .i64 (x.rt 4), .int .i64 (x.rt 5), .int .i64 (x.rt 6), .int .i64 (x.rt 7)] 49)).alloc (.cells #[.int .i64 kd, .int .i64 0, .int .i64 0, .slice none 0 0, .slice none 0 0, .int .i64 0, .int .i64 0, .int .i64 0, .int .i64 0, .int .i64 0, .int .i64 0, .int .i64 0, .int .i64 0, .int .i64 0, .bool false] 110)
  have b3 := (Blk.new ((w.alloc (.cells (stA kd x rs (.slice Af nf cf) (.slice Ap np cp)) 110)).alloc (.cells #[.int .i64 0, .int .i64 0, .int .i64 0, .slice none 0 0, .slice none 0 0, .int .i64 0, .int .i64 0, .int .i64 0, .int .i64 0, .int .i64 0, .int .i64 0, .int .i64 0, .int .i64 0, .int .i64 0, .bool false] 110)) 49 #[.int .i64 x.id, .int .i64 x.kind, .slice Af nf cf, .slice Ap np cp, .int .i64 x.par, .int .i64 (x.rt 0), .int .i64 (x.rt 1), .int .i64 (x.rt 2), .int .i64 (x.rt 3), .int .i64 (x.rt 4), .int .i64 (x.rt 5), .int .i64 (x.rt 6), .int .i64 (x.rt 7)]).alloc (.cells #[.int .i64 kd, .int .i64 0, .int .i64 0, .slice none 0 0, .slice none 0 0, .int .i64 0, .int .i64 0, .int .i64 0, .int .i64 0, .int .i64 0, .int .i64 0, .int .i64 0, .int .i64 0, .int .i64 0, .bool false] 110)
  have b4 := Blk.new (((w.alloc (.cells (stA kd x rs (.slice Af nf cf) (.slice Ap np cp)) 110)).alloc (.cells #[.int .i64 0, .int .i64 0, .int .i64 0, .slice none 0 0, .slice none 0 0, .int .i64 0, .int .i64 0, .int .i64 0, .int .i64 0, .int .i64 0, .int .i64 0, .int .i64 0, .int .i64 0, .int .i64 0, .bool false] 110)).alloc (.cells #[.int .i64 x.id, .int .i64 x.kind, .slice Af nf cf, .slice Ap np cp, .int .i64 x.par, .int .i64 (x.rt 0), .int .i64 (x.rt 1), .int .i64 (x.rt 2), .int .i64 (x.rt 3), .int .i64 (x.rt 4), .int .i64 (x.rt 5), .int .i64 (x.rt 6), .int .i64 (x.rt 7)] 49)) 110 #[.int .i64 kd, .int .i64 0, .int .i64 0, .slice none 0 0, .slice none 0 0, .int .i64 0, .int .i64 0, .int .i64 0, .int .i64 0, .int .i64 0, .int .i64 0, .int .i64 0, .int .i64 0, .int .i64 0, .bool false]
  simp only [World.size_alloc] at b2 b3 b4
  have fA := (((((Fr.refl w.heap.size [] w).alloc (Nat.le_refl _) (.cells (stA kd x rs (.slice Af nf cf) (.slice Ap np cp)) 110)).alloc (by simp) (.cells #[.int .i64 0, .int .i64 0, .int .i64 0, .slice none 0 0, .slice none 0 0, .int .i64 0, .int .i64 0, .int .i64 0, .int .i64 0, .int .i64 0, .int .i64 0, .int .i64 0, .int .i64 0, .int .i64 0, .bool false] 110)).alloc (by simp; omega) (.cells #[.int .i64 x.id, .int .i64 x.kind, .slice Af nf cf, .slice Ap np cp, .int .i64 x.par, .int .i64 (x.rt 0), .int .i64 (x.rt 1), .int .i64 (x.rt 2), .int .i64 (x.rt 3), .int .i64 (x.rt 4), .int .i64 (x.rt 5), .int .i64 (x.rt 6), .int .i64 (x.rt 7)] 49)).alloc (by simp; omega) (.cells #[.int .i64 kd, .int .i64 0, .int .i64 0, .slice none 0 0, .slice none 0 0, .int .i64 0, .int .i64 0, .int .i64 0, .int .i64 0, .int .i64 0, .int .i64 0, .int .i64 0, .int .i64 0, .int .i64 0, .bool false] 110))
  have hsa : ((((w.alloc (.cells (stA kd x rs (.slice Af nf cf) (.slice Ap np cp)) 110)).alloc (.cells #[.int .i64 0, .int .i64 0, .int .i64 0, .slice none 0 0, .slice none 0 0, .int .i64 0, .int .i64 0, .int .i64 0, .int .i64 0, .int .i64 0, .int .i64 0, .int .i64 0, .int .i64 0, .int .i64 0, .bool false] 110)).alloc (.cells #[.int .i64 x.id, .int .i64 x.kind, .slice Af nf cf, .slice Ap np cp, .int .i64 x.par, .int .i64 (x.rt 0), .int .i64 (x.rt 1), .int .i64 (x.rt 2), .int .i64 (x.rt 3), .int .i64 (x.rt 4), .int .i64 (x.rt 5), .int .i64 (x.rt 6), .int .i64 (x.rt 7)] 49)).alloc (.cells #[.int .i64 kd, .int .i64 0, .int .i64 0, .slice none 0 0, .slice none 0 0, .int .i64 0, .int .i64 0, .int .i64 0, .int .i64 0, .int .i64 0, .int .i64 0, .int .i64 0, .int .i64 0, .int .i64 0, .bool false] 110)).heap.size = w.heap.size + 1 + 1 + 1 + 1 := by simp only [World.size_alloc]
  have B1 := Lib.hid b1
  have B2 := Lib.hid b2
  have B3 := Lib.hid b3
  have B4 := Lib.hid b4
  have FA := Lib.hid fA
  have HSA := Lib.hid hsa
  clear hf2 hp2 hnf hnp hcs hQ b1 b2 b3 b4 fA hsa
  go_enter Tryz.func85, Tryz.ntmps85
  go_upto_region 3 with fail
  generalize (((w.alloc (.cells (stA kd x rs (.slice Af nf cf) (.slice Ap np cp)) 110)).alloc (.cells #[.int .i64 0, .int .i64 0, .int .i64 0, .slice none 0 0, .slice none 0 0, .int .i64 0, .int .i64 0, .int .i64 0, .int .i64 0, .int .i64 0, .int .i64 0, .int .i64 0, .int .i64 0, .int .i64 0, .bool false] 110)).alloc (.cells #[.int .i64 x.id, .int .i64 x.kind, .slice Af nf cf, .slice Ap np cp, .int .i64 x.par, .int .i64 (x.rt 0), .int .i64 (x.rt 1), .int .i64 (x.rt 2), .int .i64 (x.rt 3), .int .i64 (x.rt 4), .int .i64 (x.rt 5), .int .i64 (x.rt 6), .int .i64 (x.rt 7)] 49)).alloc (.cells #[.int .i64 kd, .int .i64 0, .int .i64 0, .slice none 0 0, .slice none 0 0, .int .i64 0, .int .i64 0, .int .i64 0, .int .i64 0, .int .i64 0, .int .i64 0, .int .i64 0, .int .i64 0, .int .i64 0, .bool false] 110) = wa at *
  obtain ⟨g, hg⟩ : ∃ g, g = w.heap.size := ⟨_, rfl⟩
  rw [← hg] at B1 B2 B3 B4 HSA
  try rw [← hg]
  have HG := Lib.hid hg
  clear hg
  have k0 := B1.out.cell 0
  have k14 := B1.out.cell 14
  have n0 := B3.out.cell 0
  have n1 := B3.out.cell 1
  have n2 := B3.out.cell 2
  have n3 := B3.out.cell 3
  have n4 := B3.out.cell 4
  have n5 := B3.out.cell 5
  have n6 := B3.out.cell 6
  have n7 := B3.out.cell 7
  have n8 := B3.out.cell 8
  have n9 := B3.out.cell 9
  have n10 := B3.out.cell 10
  have n11 := B3.out.cell 11
  have n12 := B3.out.cell 12
  simp at k0 k14 n0 n1 n2 n3 n4 n5 n6 n7 n8 n9 n10 n11 n12
  have y1 := B4.out.frozen 1
  have y2 := B4.out.frozen 2
  have y3 := B4.out.frozen 3
  have y4 := B4.out.frozen 4
  have y5 := B4.out.frozen 5
  have y6 := B4.out.frozen 6
  have y7 := B4.out.frozen 7
  have y8 := B4.out.frozen 8
  have y9 := B4.out.frozen 9
  have y10 := B4.out.frozen 10
  have y11 := B4.out.frozen 11
  have y12 := B4.out.frozen 12
  have y13 := B4.out.frozen 13
  have y14 := B4.out.frozen 14
  have m1 := B4.out.cell 1
  have m2 := B4.out.cell 2
  have m3 := B4.out.cell 3
  have m4 := B4.out.cell 4
  have m5 := B4.out.cell 5
  have m6 := B4.out.cell 6
  have m7 := B4.out.cell 7
  have m8 := B4.out.cell 8
  have m9 := B4.out.cell 9
  have m10 := B4.out.cell 10
  have m11 := B4.out.cell 11
  have m12 := B4.out.cell 12
  have m13 := B4.out.cell 13
  have m14 := B4.out.cell 14
  simp at m1 m2 m3 m4 m5 m6 m7 m8 m9 m10 m11 m12 m13 m14
  by_cases e4 : kd = 4
  · subst e4
    obtain rfl : cs = ⟨4, ⟨x.id, 0, x.par, [], [], x.rt⟩, false⟩ := by
      rw [HCS.out]
      unfold cleanS
      simp
    clear HCS
    go_upto_region 15 with fail
    generalize hwz : World.setCell _ _ _ = wz
    have d4 := blk_setL ([.int .i64 x.id, .int .i64 0, (.slice none 0 0), (.slice none 0 0), .int .i64 x.par, .int .i64 (x.rt 0), .int .i64 (x.rt 1), .int .i64 (x.rt 2), .int .i64 (x.rt 3), .int .i64 (x.rt 4), .int .i64 (x.rt 5), .int .i64 (x.rt 6), .int .i64 (x.rt 7)]) 1 B4.out
    simp only [putL, List.setIfInBounds_toArray, List.set_cons_succ, List.set_cons_zero, Nat.reduceAdd] at d4
    have d2 := far_setL (g := g + 1 + 1 + 1) (by omega) ([.int .i64 x.id, .int .i64 0, (.slice none 0 0), (.slice none 0 0), .int .i64 x.par, .int .i64 (x.rt 0), .int .i64 (x.rt 1), .int .i64 (x.rt 2), .int .i64 (x.rt 3), .int .i64 (x.rt 4), .int .i64 (x.rt 5), .int .i64 (x.rt 6), .int .i64 (x.rt 7)]) 1 B2.out
    have fz := fr_setL (g := g + 1 + 1 + 1) (.inl (by have := HG.out; omega)) ([.int .i64 x.id, .int .i64 0, (.slice none 0 0), (.slice none 0 0), .int .i64 x.par, .int .i64 (x.rt 0), .int .i64 (x.rt 1), .int .i64 (x.rt 2), .int .i64 (x.rt 3), .int .i64 (x.rt 4), .int .i64 (x.rt 5), .int .i64 (x.rt 6), .int .i64 (x.rt 7)]) 1 FA.out
    have fs := fr_setL (g := g + 1 + 1 + 1) (.inr (by simp)) ([.int .i64 x.id, .int .i64 0, (.slice none 0 0), (.slice none 0 0), .int .i64 x.par, .int .i64 (x.rt 0), .int .i64 (x.rt 1), .int .i64 (x.rt 2), .int .i64 (x.rt 3), .int .i64 (x.rt 4), .int .i64 (x.rt 5), .int .i64 (x.rt 6), .int .i64 (x.rt 7)]) 1 (Fr.refl wa.heap.size [g + 1 + 1 + 1] wa)
    have D4 := Lib.hid (by rw [← hwz]; exact d4 : Blk wz (g + 1 + 1 + 1) 110 _)
    have D2 := Lib.hid (by rw [← hwz]; exact d2 : Blk wz (g + 1) 110 _)
    have FZ := Lib.hid (by rw [← hwz]; exact fz : Fr w.heap.size [] w wz)
    have FS := Lib.hid (by rw [← hwz]; exact fs : Fr wa.heap.size [g + 1 + 1 + 1] wa wz)
    clear hwz d4 d2 fz fs
    have NIN := Lib.hid (nd_bare wz wz.heap.size (⟨x.id, 0, x.par, [], [], x.rt⟩ : Nd) rfl rfl)
    have FF := Lib.hid (fresh_nil (g + 4))
    have FP := Lib.hid (fresh_nil (g + 4))
    clear y1 m1 y2 m2 y3 m3 y4 m4 y5 m5 y6 m6 y7 m7 y8 m8 y9 m9 y10 m10 y11 m11 y12 m12 y13 m13 y14 m14 n0 n1 n2 n3 n4 n5 n6 n7 n8 n9 n10 n11 n12 k0 k14 FS
    have q0 := D4.out.cell 0
    have q1 := D4.out.cell 1
    have q2 := D4.out.cell 2
    have q3 := D4.out.cell 3
    have q4 := D4.out.cell 4
    have q5 := D4.out.cell 5
    have q6 := D4.out.cell 6
    have q7 := D4.out.cell 7
    have q8 := D4.out.cell 8
    have q9 := D4.out.cell 9
    have q10 := D4.out.cell 10
    have q11 := D4.out.cell 11
    have q12 := D4.out.cell 12
    have q13 := D4.out.cell 13
    have q14 := D4.out.cell 14
    simp at q0 q1 q2 q3 q4 q5 q6 q7 q8 q9 q10 q11 q12 q13 q14
    have z0 := D2.out.frozen 0
    have z1 := D2.out.frozen 1
    have z2 := D2.out.frozen 2
    have z3 := D2.out.frozen 3
    have z4 := D2.out.frozen 4
    have z5 := D2.out.frozen 5
    have z6 := D2.out.frozen 6
    have z7 := D2.out.frozen 7
    have z8 := D2.out.frozen 8
    have z9 := D2.out.frozen 9
    have z10 := D2.out.frozen 10
    have z11 := D2.out.frozen 11
    have z12 := D2.out.frozen 12
    have z13 := D2.out.frozen 13
    have z14 := D2.out.frozen 14
    have s0 := D2.out.cell 0
    have s1 := D2.out.cell 1
    have s2 := D2.out.cell 2
    have s3 := D2.out.cell 3
    have s4 := D2.out.cell 4
    have s5 := D2.out.cell 5
    have s6 := D2.out.cell 6
    have s7 := D2.out.cell 7
    have s8 := D2.out.cell 8
    have s9 := D2.out.cell 9
    have s10 := D2.out.cell 10
    have s11 := D2.out.cell 11
    have s12 := D2.out.cell 12
    have s13 := D2.out.cell 13
    have s14 := D2.out.cell 14
    simp at s0 s1 s2 s3 s4 s5 s6 s7 s8 s9 s10 s11 s12 s13 s14
    go_wp2_with fail
    have be := blk_setL ([.int .i64 4, .int .i64 x.id, .int .i64 0, (.slice none 0 0), (.slice none 0 0), .int .i64 x.par, .int .i64 (x.rt 0), .int .i64 (x.rt 1), .int .i64 (x.rt 2), .int .i64 (x.rt 3), .int .i64 (x.rt 4), .int .i64 (x.rt 5), .int .i64 (x.rt 6), .int .i64 (x.rt 7), .bool false]) 0 D2.out
    simp only [putL, List.setIfInBounds_toArray, List.set_cons_succ, List.set_cons_zero, Nat.reduceAdd] at be
    have BE := Lib.hid be
    clear be
    have fe := fr_setL (g := g + 1) (.inr (by simp)) ([.int .i64 4, .int .i64 x.id, .int .i64 0, (.slice none 0 0), (.slice none 0 0), .int .i64 x.par, .int .i64 (x.rt 0), .int .i64 (x.rt 1), .int .i64 (x.rt 2), .int .i64 (x.rt 3), .int .i64 (x.rt 4), .int .i64 (x.rt 5), .int .i64 (x.rt 6), .int .i64 (x.rt 7), .bool false]) 0 (Fr.refl wz.heap.size [g + 1] wz)
    have FE := Lib.hid (FZ.out.trans (fe.mono (B' := w.heap.size) (L' := []) FZ.out.size (by intro k hk hlt; have := HG.out; simp at hk; omega)))
    have NE := Lib.hid ((ndin_fresh NIN.out FF.out FP.out fe (Nat.le_refl _) (by intro k hk; simp at hk; omega)).more fe.size)
    refine bodyPost_ret (results_cell_row rfl _ _ (g + 1) 110 (stV (⟨4, ⟨x.id, 0, x.par, [], [], x.rt⟩, false⟩ : Stp) (.slice none 0 0) (.slice none 0 0)) (0, 0) _ rfl BE.out Tryz.underlying110 rfl (by kernel_rfl)) rfl (HOUT.out (.slice none 0 0) (.slice none 0 0) _ NE.out (fresh_le FF.out (by have := HG.out; omega)) (fresh_le FP.out (by have := HG.out; omega)) FE.out)
  · exact absurd HKD.out e4
set_option maxRecDepth 100000 in
set_option maxHeartbeats 16000000 in
theorem clean_0 (kd : Int) (x : Nd) (rs : Bool) (sf sp : Value) (B : Nat) (w : World) (e1 : kd ≠ 1) (e2 : kd ≠ 2) (e3 : kd ≠ 3) (e4 : kd ≠ 4) (e5 : kd ≠ 5) (h : NdIn w B (x, sf, sp)) (hB : B ≤ w.heap.size) (h1 : x.fr.length ≤ 1000000) (h2 : x.pg.length ≤ 1000000) :
    Calls Tryz.prog 85 #[.agg (stA kd x rs sf sp)] w (CleanOut ⟨kd, x, rs⟩ w) := by
  obtain ⟨⟨Af, cf, hf1, hf2⟩, ⟨Ap, cp, hp1, hp2⟩⟩ := h
  simp only at hf1 hf2 hp1 hp2
  subst hf1
  subst hp1
  obtain ⟨nf, hnf⟩ : ∃ z, z = x.fr.length := ⟨_, rfl⟩
  obtain ⟨np, hnp⟩ : ∃ z, z = x.pg.length := ⟨_, rfl⟩
  have RP := Lib.hid hp2
  have RF := Lib.hid hf2
  rw [← hnf] at RF h1 ⊢
  rw [← hnp] at RP h2 ⊢
  have HNF := Lib.hid hnf
  have HNP := Lib.hid hnp
  obtain ⟨cs, hcs⟩ : ∃ c, c = cleanS ⟨kd, x, rs⟩ := ⟨_, rfl⟩
  obtain ⟨Q, hQ⟩ : ∃ Q, Q = CleanOut ⟨kd, x, rs⟩ w := ⟨_, rfl⟩
  rw [← hQ]
  have HOUT := Lib.hid (fun (tf tp : Value) (w' : World) (ha : NdIn w' w'.heap.size (cs.nd, tf, tp)) (hb : Fresh w.heap.size tf) (hc : Fresh w.heap.size tp) (hd : Fr w.heap.size [] w w') => (by
    rw [hQ]
    unfold CleanOut
    rw [← hcs]
    exact ⟨tf, tp, rfl, ha, hb, hc, hd⟩ : Q (.returned (.agg (stV cs tf tp))) w'))
  have HCS := Lib.hid hcs
  have b1 := (((Blk.new w 110 (stA kd x rs (.slice Af nf cf) (.slice Ap np cp))).alloc (.cells #[.int .i64 0, .int .i64 0, .int .i64 0, .slice none 0 0, .slice none 0 0, .int .i64 0, .int .i64 0, .int .i64 0, .int .i64 0, .int .i64 0, .int .i64 0, .int .i64 0, .int .i64 0, .int .i64 0, .bool false] 110)).alloc (.cells #[.int .i64 x.id, .int .i64 x.kind, .slice Af nf cf, .slice Ap np cp, .int .i64 x.par, .int .i64 (x.rt 0), .int .i64 (x.rt 1), .int .i64 (x.rt 2), .int .i64 (x.rt 3), .int .i64 (x.rt 4), .int .i64 (x.rt 5), .int .i64 (x.rt 6), .int .i64 (x.rt 7)] 49)).alloc (.cells #[.int .i64 kd, .int .i64 0, .int .i64 0, .slice none 0 0, .slice none 0 0, .int .i64 0, .int .i64 0, .int .i64 0, .int .i64 0, .int .i64 0, .int .i64 0, .int .i64 0, .int .i64 0, .int .i64 0, .bool false] 110)
  have b2 := ((Blk.new (w.alloc (.cells (stA kd x rs (.slice Af nf cf) (.slice Ap np cp)) 110)) 110 #[.int .i64 0, .int .i64 0, .int .i64 0, .slice none 0 0, .slice none 0 0, .int .i64 0, .int .i64 0, .int .i64 0, .int .i64 0, .int .i64 0, .int .i64 0, .int .i64 0, .int .i64 0, .int .i64 0, .bool false]).alloc (.cells #[.int .i64 x.id, .int .i64 x.kind, .slice Af nf cf, .slice Ap np cp, .int .i64 x.par, .int .i64 (x.rt 0), .int .i64 (x.rt 1), .int .i64 (x.rt 2), .int .i64 (x.rt 3), .int .i64 (x.rt 4), .int .i64 (x.rt 5), .int .i64 (x.rt 6), .int .i64 (x.rt 7)] 49)).alloc (.cells #[.int .i64 kd, .int .i64 0, .int .i64 0, .slice none 0 0, .slice none 0 0, .int .i64 0, .int .i64 0, .int .i64 0, .int .i64 0, .int .i64 0, .int .i64 0, .int .i64 0, .int .i64 0, .int .i64 0, .bool false] 110)
  have b3 := (Blk.new ((w.alloc (.cells (stA kd x rs (.slice Af nf cf) (.slice Ap np cp)) 110)).alloc (.cells #[.int .i64 0, .int .i64 0, .int .i64 0, .slice none 0 0, .slice none 0 0, .int .i64 0, .int .i64 0, .int .i64 0, .int .i64 0, .int .i64 0, .int .i64 0, .int .i64 0, .int .i64 0, .int .i64 0, .bool false] 110)) 49 #[.int .i64 x.id, .int .i64 x.kind, .slice Af nf cf, .slice Ap np cp, .int .i64 x.par, .int .i64 (x.rt 0), .int .i64 (x.rt 1), .int .i64 (x.rt 2), .int .i64 (x.rt 3), .int .i64 (x.rt 4), .int .i64 (x.rt 5), .int .i64 (x.rt 6), .int .i64 (x.rt 7)]).alloc (.cells #[.int .i64 kd, .int .i64 0, .int .i64 0, .slice none 0 0, .slice none 0 0, .int .i64 0, .int .i64 0, .int .i64 0, .int .i64 0, .int .i64 0, .int .i64 0, .int .i64 0, .int .i64 0, .int .i64 0, .bool false] 110)
  have b4 := Blk.new (((w.alloc (.cells (stA kd x rs (.slice Af nf cf) (.slice Ap np cp)) 110)).alloc (.cells #[.int .i64 0, .int .i64 0, .int .i64 0, .slice none 0 0, .slice none 0 0, .int .i64 0, .int .i64 0, .int .i64 0, .int .i64 0, .int .i64 0, .int .i64 0, .int .i64 0, .int .i64 0, .int .i64 0, .bool false] 110)).alloc (.cells #[.int .i64 x.id, .int .i64 x.kind, .slice Af nf cf, .slice Ap np cp, .int .i64 x.par, .int .i64 (x.rt 0), .int .i64 (x.rt 1), .int .i64 (x.rt 2), .int .i64 (x.rt 3), .int .i64 (x.rt 4), .int .i64 (x.rt 5), .int .i64 (x.rt 6), .int .i64 (x.rt 7)] 49)) 110 #[.int .i64 kd, .int .i64 0, .int .i64 0, .slice none 0 0, .slice none 0 0, .int .i64 0, .int .i64 0, .int .i64 0, .int .i64 0, .int .i64 0, .int .i64 0, .int .i64 0, .int .i64 0, .int .i64 0, .bool false]
  simp only [World.size_alloc] at b2 b3 b4
  have fA := (((((Fr.refl w.heap.size [] w).alloc (Nat.le_refl _) (.cells (stA kd x rs (.slice Af nf cf) (.slice Ap np cp)) 110)).alloc (by simp) (.cells #[.int .i64 0, .int .i64 0, .int .i64 0, .slice none 0 0, .slice none 0 0, .int .i64 0, .int .i64 0, .int .i64 0, .int .i64 0, .int .i64 0, .int .i64 0, .int .i64 0, .int .i64 0, .int .i64 0, .bool false] 110)).alloc (by simp; omega) (.cells #[.int .i64 x.id, .int .i64 x.kind, .slice Af nf cf, .slice Ap np cp, .int .i64 x.par, .int .i64 (x.rt 0), .int .i64 (x.rt 1), .int .i64 (x.rt 2), .int .i64 (x.rt 3), .int .i64 (x.rt 4), .int .i64 (x.rt 5), .int .i64 (x.rt 6), .int .i64 (x.rt 7)] 49)).alloc (by simp; omega) (.cells #[.int .i64 kd, .int .i64 0, .int .i64 0, .slice none 0 0, .slice none 0 0, .int .i64 0, .int .i64 0, .int .i64 0, .int .i64 0, .int .i64 0, .int .i64 0, .int .i64 0, .int .i64 0, .int .i64 0, .bool false] 110))
  have hsa : ((((w.alloc (.cells (stA kd x rs (.slice Af nf cf) (.slice Ap np cp)) 110)).alloc (.cells #[.int .i64 0, .int .i64 0, .int .i64 0, .slice none 0 0, .slice none 0 0, .int .i64 0, .int .i64 0, .int .i64 0, .int .i64 0, .int .i64 0, .int .i64 0, .int .i64 0, .int .i64 0, .int .i64 0, .bool false] 110)).alloc (.cells #[.int .i64 x.id, .int .i64 x.kind, .slice Af nf cf, .slice Ap np cp, .int .i64 x.par, .int .i64 (x.rt 0), .int .i64 (x.rt 1), .int .i64 (x.rt 2), .int .i64 (x.rt 3), .int .i64 (x.rt 4), .int .i64 (x.rt 5), .int .i64 (x.rt 6), .int .i64 (x.rt 7)] 49)).alloc (.cells #[.int .i64 kd, .int .i64 0, .int .i64 0, .slice none 0 0, .slice none 0 0, .int .i64 0, .int .i64 0, .int .i64 0, .int .i64 0, .int .i64 0, .int .i64 0, .int .i64 0, .int .i64 0, .int .i64 0, .bool false] 110)).heap.size = w.heap.size + 1 + 1 + 1 + 1 := by simp only [World.size_alloc]
  have B1 := Lib.hid b1
  have B2 := Lib.hid b2
  have B3 := Lib.hid b3
  have B4 := Lib.hid b4
  have FA := Lib.hid fA
  have HSA := Lib.hid hsa
  clear hf2 hp2 hnf hnp hcs hQ b1 b2 b3 b4 fA hsa
  go_enter Tryz.func85, Tryz.ntmps85
  go_upto_region 3 with fail
  generalize (((w.alloc (.cells (stA kd x rs (.slice Af nf cf) (.slice Ap np cp)) 110)).alloc (.cells #[.int .i64 0, .int .i64 0, .int .i64 0, .slice none 0 0, .slice none 0 0, .int .i64 0, .int .i64 0, .int .i64 0, .int .i64 0, .int .i64 0, .int .i64 0, .int .i64 0, .int .i64 0, .int .i64 0, .bool false] 110)).alloc (.cells #[.int .i64 x.id, .int .i64 x.kind, .slice Af nf cf, .slice Ap np cp, .int .i64 x.par, .int .i64 (x.rt 0), .int .i64 (x.rt 1), .int .i64 (x.rt 2), .int .i64 (x.rt 3), .int .i64 (x.rt 4), .int .i64 (x.rt 5), .int .i64 (x.rt 6), .int .i64 (x.rt 7)] 49)).alloc (.cells #[.int .i64 kd, .int .i64 0, .int .i64 0, .slice none 0 0, .slice none 0 0, .int .i64 0, .int .i64 0, .int .i64 0, .int .i64 0, .int .i64 0, .int .i64 0, .int .i64 0, .int .i64 0, .int .i64 0, .bool false] 110) = wa at *
  obtain ⟨g, hg⟩ : ∃ g, g = w.heap.size := ⟨_, rfl⟩
  rw [← hg] at B1 B2 B3 B4 HSA
  try rw [← hg]
  have HG := Lib.hid hg
  clear hg
  have k0 := B1.out.cell 0
  have k14 := B1.out.cell 14
  have n0 := B3.out.cell 0
  have n1 := B3.out.cell 1
  have n2 := B3.out.cell 2
  have n3 := B3.out.cell 3
  have n4 := B3.out.cell 4
  have n5 := B3.out.cell 5
  have n6 := B3.out.cell 6
  have n7 := B3.out.cell 7
  have n8 := B3.out.cell 8
  have n9 := B3.out.cell 9
  have n10 := B3.out.cell 10
  have n11 := B3.out.cell 11
  have n12 := B3.out.cell 12
  simp at k0 k14 n0 n1 n2 n3 n4 n5 n6 n7 n8 n9 n10 n11 n12
  have y1 := B4.out.frozen 1
  have y2 := B4.out.frozen 2
  have y3 := B4.out.frozen 3
  have y4 := B4.out.frozen 4
  have y5 := B4.out.frozen 5
  have y6 := B4.out.frozen 6
  have y7 := B4.out.frozen 7
  have y8 := B4.out.frozen 8
  have y9 := B4.out.frozen 9
  have y10 := B4.out.frozen 10
  have y11 := B4.out.frozen 11
  have y12 := B4.out.frozen 12
  have y13 := B4.out.frozen 13
  have y14 := B4.out.frozen 14
  have m1 := B4.out.cell 1
  have m2 := B4.out.cell 2
  have m3 := B4.out.cell 3
  have m4 := B4.out.cell 4
  have m5 := B4.out.cell 5
  have m6 := B4.out.cell 6
  have m7 := B4.out.cell 7
  have m8 := B4.out.cell 8
  have m9 := B4.out.cell 9
  have m10 := B4.out.cell 10
  have m11 := B4.out.cell 11
  have m12 := B4.out.cell 12
  have m13 := B4.out.cell 13
  have m14 := B4.out.cell 14
  simp at m1 m2 m3 m4 m5 m6 m7 m8 m9 m10 m11 m12 m13 m14
  have f1 := kd_ne e1
  have f2 := kd_ne e2
  have f3 := kd_ne e3
  have f4 := kd_ne e4
  have f5 := kd_ne e5
  obtain rfl : cs = ⟨0, ⟨0, 0, 0, [], [], fun _ => 0⟩, false⟩ := by
    rw [HCS.out]
    unfold cleanS
    simp [e1, e2, e3, e4, e5]
  clear HCS
  have z0 := B2.out.frozen 0
  have z1 := B2.out.frozen 1
  have z2 := B2.out.frozen 2
  have z3 := B2.out.frozen 3
  have z4 := B2.out.frozen 4
  have z5 := B2.out.frozen 5
  have z6 := B2.out.frozen 6
  have z7 := B2.out.frozen 7
  have z8 := B2.out.frozen 8
  have z9 := B2.out.frozen 9
  have z10 := B2.out.frozen 10
  have z11 := B2.out.frozen 11
  have z12 := B2.out.frozen 12
  have z13 := B2.out.frozen 13
  have z14 := B2.out.frozen 14
  have s0 := B2.out.cell 0
  have s1 := B2.out.cell 1
  have s2 := B2.out.cell 2
  have s3 := B2.out.cell 3
  have s4 := B2.out.cell 4
  have s5 := B2.out.cell 5
  have s6 := B2.out.cell 6
  have s7 := B2.out.cell 7
  have s8 := B2.out.cell 8
  have s9 := B2.out.cell 9
  have s10 := B2.out.cell 10
  have s11 := B2.out.cell 11
  have s12 := B2.out.cell 12
  have s13 := B2.out.cell 13
  have s14 := B2.out.cell 14
  simp at s0 s1 s2 s3 s4 s5 s6 s7 s8 s9 s10 s11 s12 s13 s14
  go_wp2_with fail
  have be := blk_setL ([.int .i64 0, .int .i64 0, .int .i64 0, .slice none 0 0, .slice none 0 0, .int .i64 0, .int .i64 0, .int .i64 0, .int .i64 0, .int .i64 0, .int .i64 0, .int .i64 0, .int .i64 0, .int .i64 0, .bool false]) 0 B2.out
  simp only [putL, List.setIfInBounds_toArray, List.set_cons_succ, List.set_cons_zero, Nat.reduceAdd] at be
  have fe := fr_setL (g := g + 1) (.inr (by simp)) ([.int .i64 0, .int .i64 0, .int .i64 0, .slice none 0 0, .slice none 0 0, .int .i64 0, .int .i64 0, .int .i64 0, .int .i64 0, .int .i64 0, .int .i64 0, .int .i64 0, .int .i64 0, .int .i64 0, .bool false]) 0 (Fr.refl wa.heap.size [g + 1] wa)
  have FE := Lib.hid (FA.out.trans (fe.mono (B' := w.heap.size) (L' := []) FA.out.size (by intro k hk hlt; have := HG.out; simp at hk; omega)))
  refine bodyPost_ret (results_cell_row rfl _ _ (g + 1) 110 (stV (⟨0, ⟨0, 0, 0, [], [], fun _ => 0⟩, false⟩ : Stp) (.slice none 0 0) (.slice none 0 0)) (0, 0) _ rfl be Tryz.underlying110 rfl (by kernel_rfl)) rfl (HOUT.out (.slice none 0 0) (.slice none 0 0) _ (nd_bare _ _ _ rfl rfl) (fresh_nil _) (fresh_nil _) FE.out)
end Go.Proofs.YthfibggbipkmfaaGreat
namespace Go.Proofs.YthfibggbipkmfaaGreat
open Go.RowKit Go.Fb
theorem clean_any (kd : Int) (x : Nd) (rs : Bool) (sf sp : Value) (B : Nat) (w : World) (h : NdIn w B (x, sf, sp)) (hB : B ≤ w.heap.size) (h1 : x.fr.length ≤ 1000000) (h2 : x.pg.length ≤ 1000000) :
    Calls Tryz.prog 85 #[.agg (stA kd x rs sf sp)] w (CleanOut ⟨kd, x, rs⟩ w) := by
  by_cases e1 : kd = 1
  · exact clean_1 kd x rs sf sp B w e1 h hB h1 h2
  by_cases e2 : kd = 2
  · exact clean_2 kd x rs sf sp B w e2 h hB h1 h2
  by_cases e3 : kd = 3
  · exact clean_3 kd x rs sf sp B w e3 h hB h1 h2
  by_cases e4 : kd = 4
  · exact clean_4 kd x rs sf sp B w e4 h hB h1 h2
  by_cases e5 : kd = 5
  · exact clean_5 kd x rs sf sp B w e5 h hB h1 h2
  exact clean_0 kd x rs sf sp B w e1 e2 e3 e4 e5 h hB h1 h2
end Go.Proofs.YthfibggbipkmfaaGreat
namespace Go.Proofs.YthfibggbipkmfaaGreat
open Go.RowKit Go.Fb
set_option linter.unusedVariables false
set_option maxRecDepth 100000 in
theorem stepf_any (x y : Nd) (sf sp tf tp : Value) (g : Nat) (kd : Int) (rs : Bool) (w : World) (hb : Blk w g 110 (stA kd y rs tf tp)) :
    Calls Tryz.prog 87 #[.agg (ndA x sf sp), .pointer (some ⟨g, 0, none⟩)] w fun e w' => e = .returned (.bool (decide (x.id = y.id))) ∧ Fr w.heap.size [] w w' := by
  have BX := Lib.hid (Blk.new w 49 (ndA x sf sp))
  have F1 := Lib.hid ((Fr.refl w.heap.size [] w).alloc (Nat.le_refl _) (.cells (ndA x sf sp) 49))
  have BS := Lib.hid (hb.alloc (.cells (ndA x sf sp) 49))
  clear hb
  go_enter Tryz.func87, Tryz.ntmps87
  go_upto_region 1 with fail
  generalize w.alloc (.cells (ndA x sf sp) 49) = wa at *
  have q0 := BX.out.cell 0
  have q1 := BS.out.cell 1
  simp at q0 q1
  go_wp2_with fail
  go_ret
  exact ⟨rfl, F1.out⟩
/-- Where the step's node stands. -/
def AtI (M : List Ndm) (id i : Int) : Prop := (i = -1 ∧ ∀ m ∈ M, decide (m.1.id = id) = false) ∨ ∃ (k : Nat) (m : Ndm), i = (k : Int) ∧ M[k]? = some m ∧ decide (m.1.id = id) = true ∧ ∀ j y, j < k → M[j]? = some y → decide (y.1.id = id) = false
theorem change_any (gw gr n c : Nat) (kd : Int) (y : Nd) (rs : Bool) (sf sp : Value) (i : Int) (M : List Ndm) (w : World) (h : Wk gw gr n c kd y rs sf sp i M w) (hk : kd = 1 ∨ kd = 3 ∨ kd = 4 ∨ kd = 5) (hi : AtI M y.id i) (hu : (idsN (fstN M)).Nodup) (hs : Small M) (hn : n ≤ 20) (h2 : y.pg.length ≤ 1000000) :
    Calls Tryz.prog 89 #[.pointer (some ⟨gw, 0, none⟩)] w (ChgOut (chgN (fstN M) ⟨kd, y, rs⟩) kd y rs sf sp i gw gr w) := by
  rcases hi with ⟨rfl, hno⟩ | ⟨k, m, rfl, hm, hid, _⟩
  · have : chgN (fstN M) ⟨kd, y, rs⟩ = (12, []) := by
      unfold chgN
      rw [show findN (fstN M) y.id = none from findN_none hno]
      simp only
      rw [if_neg (by omega)]
    rw [this]
    exact change_none gw gr n c kd y rs sf sp (-1) M w h (by omega)
  · have hid := of_decide_eq_true hid
    rcases hk with rfl | rfl | rfl | rfl
    · exact change_swap gw gr n c k y rs sf sp M m w h hm hid hu h2
    · exact change_remove gw gr n c k y rs sf sp M m w h hm hid hu hs hn
    · exact change_route gw gr n c k y rs sf sp M m w h hm hid hu
    · exact change_link gw gr n c k y rs sf sp M m w h hm hid hu
theorem add_chg (gw gr n c : Nat) (y : Nd) (rs : Bool) (sf sp : Value) (i : Int) (M : List Ndm) (w : World) (h : Wk gw gr n c 2 y rs sf sp i M w) (hi : AtI M y.id i) (hu : (idsN (fstN M)).Nodup) (hn : n ≤ 20) :
    Calls Tryz.prog 88 #[.pointer (some ⟨gw, 0, none⟩)] w (ChgOut (chgN (fstN M) ⟨2, y, rs⟩) 2 y rs sf sp i gw gr w) := by
  refine (add_any n c 2 y rs sf sp i gw gr M w h.blk h.own (by omega) h.st.inn h.ne).mono ?_
  intro e w' ho
  rcases hi with ⟨rfl, hno⟩ | ⟨k, m, rfl, hm, hid, _⟩
  · have hr : chgN (fstN M) ⟨2, y, rs⟩ = if y.kind = 0 then (11, []) else (0, fstN M ++ [y]) := by
      unfold chgN
      rw [show findN (fstN M) y.id = none from findN_none hno]
      simp
    rcases ho with ⟨h0, _⟩ | ⟨_, h1, rfl, hf⟩ | ⟨_, h1, rfl, A', c', hb, hoo, hf⟩
    · omega
    · rw [hr, if_pos h1]
      exact .inl ⟨by simp, rfl, hf.mono (Nat.le_refl _) (by simp)⟩
    · rw [hr, if_neg h1]
      refine .inr ⟨rfl, rfl, A', n + 1, c', _, hb, hoo, by rw [List.length_append, ← h.num]; rfl, fun m hm => ?_, by simp [fstN], hf⟩
      rcases List.mem_append.1 hm with hm | hm
      · exact (h.each m hm).keep hf
      · rw [List.mem_singleton.1 hm]
        exact h.st.keep hf
  · have hid := of_decide_eq_true hid
    have hr : chgN (fstN M) ⟨2, y, rs⟩ = (13, []) := by
      unfold chgN
      rw [find_here hu hm hid]
      simp
    rcases ho with ⟨_, rfl, hf⟩ | ⟨h1, _⟩ | ⟨h1, _⟩
    · rw [hr]
      exact .inl ⟨by simp, rfl, hf.mono (Nat.le_refl _) (by simp)⟩
    · omega
    · omega
theorem chg_clean (N : List Nd) (s : Stp) (h : 1 ≤ s.kind ∧ s.kind ≤ 5) : chgN N (cleanS s) = chgN N s ∧ (cleanS s).kind = s.kind ∧ (cleanS s).nd.id = s.nd.id := by
  obtain ⟨kd, y, rs⟩ := s
  simp only at h
  rcases (show kd = 1 ∨ kd = 2 ∨ kd = 3 ∨ kd = 4 ∨ kd = 5 by omega) with rfl | rfl | rfl | rfl | rfl <;> exact ⟨rfl, rfl, rfl⟩
theorem clean_small (s : Stp) : (cleanS s).nd.fr.length ≤ s.nd.fr.length ∧ (cleanS s).nd.pg.length ≤ s.nd.pg.length := by
  unfold cleanS
  split
  · exact ⟨by simp, by simp⟩
  split
  · exact ⟨Nat.le_refl _, Nat.le_refl _⟩
  split
  · exact ⟨by simp, by simp⟩
  split
  · exact ⟨by simp, by simp⟩
  split
  · exact ⟨by simp, by simp⟩
  · exact ⟨by simp, by simp⟩
theorem chg_le (N : List Nd) (s : Stp) : (chgN N s).2.length ≤ N.length + 1 := by
  unfold chgN
  have h1 : ∀ f, (updN N s.nd.id f).length = N.length := fun f => by simp [updN]
  have h2 : (delN N s.nd.id).length ≤ N.length := List.length_filter_le _ _
  split <;> (try split) <;> (try split) <;> (try split) <;> (try split) <;> (try split) <;> simp [h1] <;> omega
theorem chg_sml {M M' : List Ndm} {s : Stp} {K : Nat} (hK : M.length + 1 ≤ K) (hs : ∀ x ∈ fstN M, x.fr.length ≤ K ∧ x.pg.length ≤ K) (h1 : s.nd.fr.length ≤ K) (h2 : s.nd.pg.length ≤ K) (h : fstN M' = (chgN (fstN M) s).2) : M'.length ≤ K ∧ ∀ m ∈ M', m.1.fr.length ≤ K ∧ m.1.pg.length ≤ K := by
  have hl : M'.length = (fstN M').length := by simp [fstN]
  refine ⟨?_, fun m hm => ?_⟩
  · rw [hl, h]
    have := chg_le (fstN M) s
    have : (fstN M).length = M.length := by simp [fstN]
    omega
  · have hx : m.1 ∈ (chgN (fstN M) s).2 := by rw [← h]; exact List.mem_map.2 ⟨m, hm, rfl⟩
    revert hx
    generalize m.1 = x
    have hupd : ∀ f : Nd → Nd, (∀ z : Nd, z.fr.length ≤ K ∧ z.pg.length ≤ K → (f z).fr.length ≤ K ∧ (f z).pg.length ≤ K) → x ∈ updN (fstN M) s.nd.id f → x.fr.length ≤ K ∧ x.pg.length ≤ K := by
      intro f hf hx
      unfold updN at hx
      obtain ⟨z, hz, rfl⟩ := List.mem_map.1 hx
      by_cases hid : z.id = s.nd.id
      · rw [if_pos hid]; exact hf z (hs z hz)
      · rw [if_neg hid]; exact hs z hz
    unfold chgN
    split
    · split
      · split
        · simp
        · intro hx
          rcases List.mem_append.1 hx with hx | hx
          · exact hs x hx
          · rw [List.mem_singleton.1 hx]; exact ⟨h1, h2⟩
      · simp
    split
    · simp
    split
    · split
      · split
        · exact hupd _ fun z hz => ⟨hz.1, h2⟩
        · simp
      · simp
    split
    · split
      · simp
      · intro hx
        exact hs x (List.mem_filter.1 hx).1
    split
    · split
      · simp
      · exact hupd _ fun z hz => hz
    split
    · exact hupd _ fun z hz => ⟨h1, hz.2⟩
    · simp
/-- What a step leaves. -/
def PStepOut (r : Int × List Nd) (w : World) (e : Ending) (w' : World) : Prop :=
  (r.1 ≠ 0 ∧ e = .returned (.tuple #[.slice none 0 0, .int .i64 r.1]) ∧ Fr w.heap.size [] w w') ∨
  (r.1 = 0 ∧ ∃ A c n M, e = .returned (.tuple #[.slice A n c, .int .i64 0]) ∧ Nmd w.heap.size w' A n c M ∧ fstN M = r.2 ∧ Fr w.heap.size [] w w')
theorem off_low {w : World} {B size n g c : Nat} {A : Option Addr} {xs : List Value} (h : Reads w B size A n xs) (hg : B ≤ g) : Off (some g) (.slice A n c) := by
  intro A' n' c' hv hn ad ha e
  injection hv with h1 h2 h3
  subst h1
  subst h2
  have := h.apart hg hn ad ha
  injection e with e
  exact this e
theorem off_fresh {b g : Nat} {v : Value} (h : Fresh b v) (hg : g < b) : Off (some g) v := by
  intro A n c hv hn ad ha e
  have := h A n c hv hn ad ha
  injection e with e
  omega
theorem ndin_low {w : World} {B g : Nat} {m : Ndm} (h : NdIn w B m) (hg : B ≤ g) : Off (some g) m.2.1 ∧ Off (some g) m.2.2 := by
  obtain ⟨⟨A, c, h1, h2⟩, ⟨A', c', h3, h4⟩⟩ := h
  rw [h1, h3]
  exact ⟨off_low h2 hg, off_low h4 hg⟩
/-- What there is once the nodes are put in order, and the step is cleaned. -/
structure Pre (b gr n c : Nat) (y : Nd) (sf sp : Value) (M : List Ndm) (w : World) : Prop where
  own : w.ownsRow 0 49 13 (.slice (some ⟨gr, 0, none⟩) n c) n (cellsN M)
  num : n = M.length
  each : ∀ m ∈ M, NdIn w w.heap.size m ∧ Off (some gr) m.2.1 ∧ Off (some gr) m.2.2
  st : NdIn w w.heap.size (y, sf, sp) ∧ Off (some gr) sf ∧ Off (some gr) sp
  hi : b ≤ gr
theorem Pre.wk {b gr n c : Nat} {kd : Int} {y : Nd} {rs : Bool} {sf sp : Value} {i : Int} {M : List Ndm} {w : World} (h : Pre b gr n c y sf sp M w) (t : Nat) (ht : t = 155) :
    Wk w.heap.size gr n c kd y rs sf sp i M (w.alloc (.cells (wkA (.slice (some ⟨gr, 0, none⟩) n c) kd y rs sf sp i) t)) := by
  subst ht
  have hf := (Fr.refl w.heap.size [] w).alloc (Nat.le_refl _) (.cells (wkA (.slice (some ⟨gr, 0, none⟩) n c) kd y rs sf sp i) 155)
  have hlt := (h.own.lt gr rfl).2
  refine ⟨Blk.new _ _ _, ownsRow_fr h.own hf (fun q hq => ⟨(h.own.lt q hq).2, by simp⟩), h.num, fun m hm => ?_, ?_, by omega⟩
  · obtain ⟨h1, h2, h3⟩ := h.each m hm
    have := ndin_low h1 (Nat.le_refl _)
    exact ⟨(h1.frw hf (Nat.le_refl _) (by simp)).more hf.size, h2, h3, this.1, this.2⟩
  · obtain ⟨h1, h2, h3⟩ := h.st
    have := ndin_low h1 (Nat.le_refl _)
    exact ⟨(h1.frw hf (Nat.le_refl _) (by simp)).more hf.size, h2, h3, this.1, this.2⟩
theorem pre_one {b gr n c : Nat} {y : Nd} {sf sp : Value} {M : List Ndm} {w1 w2 : World} (hb : b ≤ gr) (ho : w1.ownsRow b 49 13 (.slice (some ⟨gr, 0, none⟩) n c) n (cellsN M)) (hn : n = M.length) (hi : NmI b (some gr) w1 M)
    (hs : NdIn w2 w2.heap.size (y, sf, sp)) (h1 : Fresh w1.heap.size sf) (h2 : Fresh w1.heap.size sp) (hf : Fr w1.heap.size [] w1 w2) : Pre b gr n c y sf sp M w2 :=
  ⟨ownsRow_base (ownsRow_fr ho hf (fun q hq => ⟨(ho.lt q hq).2, by simp⟩)) (Nat.zero_le _), hn, fun m hm => ⟨((hi m hm).inn.frw hf (Nat.le_refl _) (by simp)).more hf.size, (hi m hm).o1, (hi m hm).o2⟩, ⟨hs, off_fresh h1 (ho.lt gr rfl).2, off_fresh h2 (ho.lt gr rfl).2⟩, hb⟩
theorem Wk.seti {gw gr n c : Nat} {kd : Int} {y : Nd} {rs : Bool} {sf sp : Value} {i : Int} {M : List Ndm} {w : World} (h : Wk gw gr n c kd y rs sf sp i M w) (j : Int) : Wk gw gr n c kd y rs sf sp j M (w.setCell ⟨gw, 16, none⟩ (.int .i64 j)) := by
  have hf := (Fr.refl w.heap.size [gw] w).setCell (p := ⟨gw, 16, none⟩) (.inr (by simp)) (.int .i64 j)
  have hf2 := hf.mono (B' := w.heap.size) (L' := [gw, gr]) (Nat.le_refl _) (by intro q hq _; simp at hq; simp [hq])
  have hb := h.blk.set_ 16 (.int .i64 j)
  simp only [List.setIfInBounds_toArray, List.set_cons_succ, List.set_cons_zero] at hb
  exact ⟨hb, ownsRow_fr h.own hf (fun q hq => ⟨(h.own.lt q hq).2, by simp [Value.ownBlock] at hq; simp [← hq]; exact Ne.symm h.ne⟩), h.num, fun m hm => (h.each m hm).keep hf2, h.st.keep hf2, h.ne⟩
theorem Nmd.low {b b' : Nat} {w : World} {A : Option Addr} {n c : Nat} {M : List Ndm} (h : Nmd b w A n c M) (hb : b' ≤ b) : Nmd b' w A n c M :=
  ⟨h.num, ownsRow_base h.own hb, fun m hm => by
    obtain ⟨h1, h2, h3, h4, h5, h6⟩ := h.inn m hm
    exact ⟨h1, h2, h3, fresh_le h4 hb, fresh_le h5 hb, h6⟩⟩
set_option maxRecDepth 100000 in
set_option maxHeartbeats 4000000 in
theorem pstep_any (A : Option Addr) (c B n : Nat) (M : List Ndm) (s : Stp) (sf sp : Value) (w : World) (h : Nds w B A n M) (hB : B ≤ w.heap.size) (hs : Small M) (hst : NdIn w B (s.nd, sf, sp)) (h1 : s.nd.fr.length ≤ 1000) (h2 : s.nd.pg.length ≤ 1000) (hk : ∀ x ∈ fstN M, x.fr.length ≤ 1000 ∧ x.pg.length ≤ 1000) :
    Calls Tryz.prog 49 #[.slice A n c, .agg (stV s sf sp)] w (PStepOut (stepN (fstN M) s) w) := by
  obtain ⟨L, hL⟩ : ∃ L, L = fstN M := ⟨_, rfl⟩
  obtain ⟨cv, hcv⟩ : ∃ v, v = checkN L := ⟨_, rfl⟩
  obtain ⟨r, hr⟩ : ∃ r, r = stepN L s := ⟨_, rfl⟩
  rw [← hL, ← hr]
  obtain ⟨kd, y, rs⟩ := s
  have hnm := h.num
  obtain ⟨⟨Af, cf, hf1, hf2⟩, ⟨Ap, cp, hp1, hp2⟩⟩ := hst
  simp only at hf1 hp1 hf2 hp2 h1 h2
  subst hf1
  subst hp1
  have wa0 := (Fr.refl w.heap.size [] w).alloc (Nat.le_refl _) (.cells (stA kd y rs (.slice Af y.fr.length cf) (.slice Ap y.pg.length cp)) 110)
  have hst2 : NdIn w B (y, .slice Af y.fr.length cf, .slice Ap y.pg.length cp) := ⟨⟨Af, cf, rfl, hf2⟩, ⟨Ap, cp, rfl, hp2⟩⟩
  obtain ⟨nf, hnf⟩ : ∃ z, z = y.fr.length := ⟨_, rfl⟩
  obtain ⟨np, hnp⟩ : ∃ z, z = y.pg.length := ⟨_, rfl⟩
  rw [← hnf, ← hnp] at wa0 hst2 ⊢
  have BS := Lib.hid (Blk.new w 110 (stA kd y rs (.slice Af nf cf) (.slice Ap np cp)))
  have FA := Lib.hid wa0
  obtain ⟨wa, hwa⟩ : ∃ x, x = w.alloc (.cells (stA kd y rs (.slice Af nf cf) (.slice Ap np cp)) 110) := ⟨_, rfl⟩
  rw [← hwa] at BS FA
  have HCK := Lib.hid (by rw [hcv, hL]; exact gcheck_any A c B n M wa (h.frw FA.out hB (by simp)) (Nat.le_trans hB FA.out.size) hs : Calls Tryz.prog 16 #[.slice A n c] wa fun e w' => e = .returned (.int .i64 cv) ∧ Fr wa.heap.size [] wa w')
  have HR := Lib.hid hr
  have HCV := Lib.hid hcv
  have HL := Lib.hid hL
  have H := Lib.hid h
  have HS := Lib.hid hs
  have HST := Lib.hid hst2
  have HK := Lib.hid hk
  have HNF := Lib.hid hnf
  have HNP := Lib.hid hnp
  have HWA := Lib.hid hwa
  have HNM := Lib.hid hnm
  clear hr hcv hL h hs hst2 hk hf2 hp2 wa0 hnf hnp hwa hnm
  go_enter Tryz.func49, Tryz.ntmps49
  go_upto_region 1 with fail
  rw [← HWA.out]
  generalize hgS : w.heap.size = gS at BS
  go_wp2_with fail
  refine HCK.out.mono ?_
  rintro e w1 ⟨rfl, f1⟩
  have F1 := Lib.hid (FA.out.trans (f1.mono (B' := w.heap.size) (L' := []) FA.out.size (by simp)))
  have BS1 := Lib.hid (BS.out.fr f1 BS.out.lt (by simp))
  have hgl : gS < w1.heap.size := BS1.out.lt
  clear f1 HCK HWA BS FA
  by_cases hc : cv = 0
  case' neg =>
    have hr1 : r = (10, []) := by rw [HR.out]; unfold stepN; rw [if_pos (by rw [← HCV.out]; exact hc)]
    have HR1 := Lib.hid hr1
    have hcb := kd_ne hc
    clear hr1 hc
    go_wp2_with fail
    go_ret2
    rw [HR1.out]
    exact .inl ⟨by simp, rfl, F1.out⟩
  subst hc
  have k0 := BS1.out.cell 0
  simp at k0
  by_cases hk1 : kd < 1 ∨ 5 < kd
  case' pos =>
    have hr1 : r = (11, []) := by rw [HR.out]; unfold stepN; rw [if_neg (by rw [← HCV.out]; simp), if_pos hk1]
    have HR1 := Lib.hid hr1
    clear hr1
    rcases hk1 with hk1 | hk1
    · go_wp2_with fail
      go_ret2
      rw [HR1.out]
      exact .inl ⟨by simp, rfl, F1.out⟩
    · have hk2 : ¬ kd < 1 := by omega
      go_wp2_with fail
      go_ret2
      rw [HR1.out]
      exact .inl ⟨by simp, rfl, F1.out⟩
  have hka : ¬ kd < 1 := by omega
  have hkb : ¬ 5 < kd := by omega
  go_upto_region 5 with fail
  have hright : RightG L := checkN_zero.1 HCV.out.symm
  have HRT := Lib.hid hright
  have hLn : L.length = n := by rw [HL.out, HNM.out]; simp [fstN]
  have hn8 : n ≤ 8 := by rw [← hLn]; exact hright.len
  have hn1 : 0 < n := by
    rw [← hLn]
    have := hright.zero
    rcases Nat.eq_zero_or_pos L.length with h0 | h0
    · rw [List.eq_nil_of_length_eq_zero h0] at this; simp [idsN] at this
    · exact h0
  obtain ⟨cs, hcs⟩ : ∃ cs, cs = cleanS ⟨kd, y, rs⟩ := ⟨_, rfl⟩
  obtain ⟨hc1, hc2, hc3⟩ := chg_clean (normL L) ⟨kd, y, rs⟩ (by simp only; omega)
  have hc4 := clean_small ⟨kd, y, rs⟩
  rw [← hcs] at hc1 hc2 hc3 hc4
  simp only at hc2 hc3 hc4
  have HCS := Lib.hid hcs
  have HNM1 := Lib.hid (fun (wx : World) (hx : Fr w1.heap.size [] w1 wx) => (by
    have FX := F1.out.trans (hx.mono (B' := w.heap.size) (L' := []) F1.out.size (by simp))
    refine (norm_any A c B n M wx (H.out.frw FX hB (by simp)) (Nat.le_trans hB FX.size) HS.out (by omega)).mono ?_
    rintro e w' ⟨A1, c1, n1, M1, hn1', rfl, ho1, hi1, hf1, f1⟩
    have : n1 = n := by
      rw [hn1', ← hLn, show M1.length = (fstN M1).length by simp [fstN], hf1, normL_len, HL.out]
    subst this
    obtain ⟨gr, cap, hv, hbg, hlt⟩ := ho1.form hn1
    injection hv with hv1 _ hv3
    subst hv1
    subst hv3
    exact ⟨gr, c1, M1, rfl, ho1, hi1, by rw [hf1, HL.out], hn1', f1⟩ : Calls Tryz.prog 39 #[.slice A n c] wx fun e w' => ∃ gr c1 M1, e = .returned (.slice (some ⟨gr, 0, none⟩) n c1) ∧ w'.ownsRow wx.heap.size 49 13 (.slice (some ⟨gr, 0, none⟩) n c1) n (cellsN M1) ∧ NmI wx.heap.size (some gr) w' M1 ∧ fstN M1 = normL L ∧ n = M1.length ∧ Fr wx.heap.size [] wx w'))
  have HCL := Lib.hid (fun (wx : World) (hx : Fr w1.heap.size [] w1 wx) => (by
    have FX := F1.out.trans (hx.mono (B' := w.heap.size) (L' := []) F1.out.size (by simp))
    refine (clean_any kd y rs (.slice Af nf cf) (.slice Ap np cp) B wx (HST.out.frw FX hB (by simp)) (Nat.le_trans hB FX.size) (by omega) (by omega)).mono ?_
    rintro e w' ⟨tf, tp, rfl, hn', h3, h4, f1⟩
    rw [← HCS.out] at hn'
    obtain ⟨⟨A1, c1, e1, e2⟩, ⟨A2, c2, e3, e4⟩⟩ := hn'
    simp only at e1 e2 e3 e4
    subst e1
    subst e3
    refine ⟨A1, _, c1, A2, _, c2, ?_, ⟨⟨A1, c1, rfl, e2⟩, ⟨A2, c2, rfl, e4⟩⟩, h3, h4, f1⟩
    rw [← HCS.out, ← hc2] : Calls Tryz.prog 85 #[.agg (stA kd y rs (.slice Af nf cf) (.slice Ap np cp))] wx fun e w' => ∃ A1 n1 c1 A2 n2 c2, e = .returned (.agg (stA kd cs.nd cs.rs (.slice A1 n1 c1) (.slice A2 n2 c2))) ∧ NdIn w' w'.heap.size (cs.nd, .slice A1 n1 c1, .slice A2 n2 c2) ∧ Fresh wx.heap.size (.slice A1 n1 c1) ∧ Fresh wx.heap.size (.slice A2 n2 c2) ∧ Fr wx.heap.size [] wx w'))
  have INV := Lib.hid (Fr.refl w1.heap.size [] w1).drew
  obtain ⟨cy, hcy⟩ : ∃ x, x = cs.nd := ⟨_, rfl⟩
  obtain ⟨crs, hcrs⟩ : ∃ x, x = cs.rs := ⟨_, rfl⟩
  rw [← hcy, ← hcrs] at HCL
  rw [← hcy] at hc3 hc4
  have HC1 := Lib.hid hc1
  have HC3 := Lib.hid hc3
  have HC4 := Lib.hid hc4
  have HEQ := Lib.hid (show cs = ⟨kd, cy, crs⟩ by rw [hcy, hcrs, ← hc2])
  clear hc1 hc2 hc3 hc4 hcs hcy hcrs hright hLn k0
  have k0 := BS1.out.cell 0
  have k1 := BS1.out.cell 1
  have k2 := BS1.out.cell 2
  have k3 := BS1.out.cell 3
  have k4 := BS1.out.cell 4
  have k5 := BS1.out.cell 5
  have k6 := BS1.out.cell 6
  have k7 := BS1.out.cell 7
  have k8 := BS1.out.cell 8
  have k9 := BS1.out.cell 9
  have k10 := BS1.out.cell 10
  have k11 := BS1.out.cell 11
  have k12 := BS1.out.cell 12
  have k13 := BS1.out.cell 13
  have k14 := BS1.out.cell 14
  simp at k0 k1 k2 k3 k4 k5 k6 k7 k8 k9 k10 k11 k12 k13 k14
  go_region_law ((rw [if_pos (by rfl)]; go_simp; first
    | (go_at_call 39; refine (HNM1.out _ INV.out).mono ?_; rintro e wn ⟨gr, c1, M1, rfl, ho1, hi1, hf1, hm1, fn⟩; have HO1 := Lib.hid ho1; have HI1 := Lib.hid hi1; have HF1 := Lib.hid hf1; have HM1 := Lib.hid hm1; clear ho1 hi1 hf1 hm1; have INV := Lib.hid (INV.out.trans (fn.mono (B' := w1.heap.size) (L' := []) INV.out.size (by simp))); have BS2 := BS1.out.fr INV.out BS1.out.lt (by simp); have k0 := BS2.cell 0; have k1 := BS2.cell 1; have k2 := BS2.cell 2; have k3 := BS2.cell 3; have k4 := BS2.cell 4; have k5 := BS2.cell 5; have k6 := BS2.cell 6; have k7 := BS2.cell 7; have k8 := BS2.cell 8; have k9 := BS2.cell 9; have k10 := BS2.cell 10; have k11 := BS2.cell 11; have k12 := BS2.cell 12; have k13 := BS2.cell 13; have k14 := BS2.cell 14; simp at k0 k1 k2 k3 k4 k5 k6 k7 k8 k9 k10 k11 k12 k13 k14)
    | (go_at_call 85; refine (HCL.out _ INV.out).mono ?_; rintro e wc ⟨A1, n1, c1', A2, n2, c2, rfl, hnc, hc5, hc6, fc⟩; have INV := Lib.hid (INV.out.trans (fc.mono (B' := w1.heap.size) (L' := []) INV.out.size (by simp)))); dsimp only))
  all_goals
    have PRE := Lib.hid (pre_one (b := w1.drew.heap.size) (HO1.out.lt gr rfl).1 HO1.out HM1.out HI1.out hnc hc5 hc6 fc)
    have hgr : w1.heap.size ≤ gr := PRE.out.hi
    have FQ := Lib.hid (F1.out.trans (INV.out.mono (B' := w.heap.size) (L' := []) F1.out.size (by simp)))
    have BSQ := Lib.hid (BS1.out.fr INV.out BS1.out.lt (by simp))
    have hwq : w1.heap.size ≤ wc.heap.size := INV.out.size
    have F1sz : w.heap.size ≤ w1.heap.size := F1.out.size
    clear fn fc hnc hc5 hc6 INV BS1 BS2 F1 HNM1 HCL HI1 HO1 k0 k1 k2 k3 k4 k5 k6 k7 k8 k9 k10 k11 k12 k13 k14
    have WK := Lib.hid (PRE.out.wk (kd := kd) (rs := crs) (i := 0) 155 rfl)
    have BSW := Lib.hid (BSQ.out.alloc (.cells (wkA (.slice (some ⟨gr, 0, none⟩) n c1) kd cy crs (.slice A1 n1 c1') (.slice A2 n2 c2) 0) 155))
    have FW := Lib.hid (FQ.out.alloc FQ.out.size (.cells (wkA (.slice (some ⟨gr, 0, none⟩) n c1) kd cy crs (.slice A1 n1 c1') (.slice A2 n2 c2) 0) 155))
    obtain ⟨wx, hwx⟩ : ∃ wx, wx = wc.alloc (.cells (wkA (.slice (some ⟨gr, 0, none⟩) n c1) kd cy crs (.slice A1 n1 c1') (.slice A2 n2 c2) 0) 155) := ⟨_, rfl⟩
    obtain ⟨gw, hgw⟩ : ∃ gw, gw = wc.heap.size := ⟨_, rfl⟩
    rw [← hwx] at WK BSW FW ⊢
    rw [← hgw] at WK
    try rw [← hgw]
    have hgw2 : w1.heap.size ≤ gw := by omega
    clear hwx hwq PRE FQ BSQ hgw
    have hent := enters_of Tryz.func87 (by kernel_rfl) rfl
    have HIX := Lib.hid (nindex_any 87 #[.pointer (some ⟨gS, 0, none⟩)] (fun x => decide (x.id = y.id)) (some ⟨gr, 0, none⟩) c1 wx.heap.size n M1 wx hent (fun m w' _ hf => stepf_any m.1 y m.2.1 m.2.2 (.slice Af nf cf) (.slice Ap np cp) gS kd rs w' (BSW.out.fr hf BSW.out.lt (by simp))) (by omega) WK.out.nds (Nat.le_refl _))
    have q0 := WK.out.blk.cell 0
    simp at q0
    have z16 := WK.out.blk.frozen 16
    have c16 := WK.out.blk.cell 16
    simp at c16
    go_wp2_with fail
    refine HIX.out.mono ?_
    rintro e w3 ⟨i, rfl, hai, f3⟩
    have HAI := Lib.hid (show AtI M1 cy.id i by rw [HC3.out]; exact hai)
    have W3 := Lib.hid (WK.out.keep f3)
    have BS3 := Lib.hid (BSW.out.fr f3 BSW.out.lt (by simp))
    have F3 := Lib.hid (FW.out.trans (f3.mono (B' := w.heap.size) (L' := []) FW.out.size (by simp)))
    have z16 := W3.out.blk.frozen 16
    have c16 := W3.out.blk.cell 16
    simp at c16
    clear f3 hai HIX WK BSW FW q0 hent
    go_upto_region 7 with fail
    have W4 := Lib.hid (W3.out.seti i)
    have BS4 := Lib.hid (BS3.out.far (p := ⟨gw, 16, none⟩) (by simp; omega) (.int .i64 i))
    have F4 := Lib.hid (F3.out.setCell (p := ⟨gw, 16, none⟩) (.inl (by have := F1sz; simp; omega)) (.int .i64 i))
    clear W3 BS3 F3 c16 z16
    generalize w3.setCell ⟨gw, 16, none⟩ (.int .i64 i) = w4 at *
    have k0 := BS4.out.cell 0
    simp at k0
    obtain ⟨rc, hrc⟩ : ∃ rc, rc = chgN (fstN M1) ⟨kd, y, rs⟩ := ⟨_, rfl⟩
    have HRC := Lib.hid hrc
    clear hrc
    have HKE := Lib.hid (show kd = 2 ∨ (kd = 1 ∨ kd = 3 ∨ kd = 4 ∨ kd = 5) by omega)
    have hnod : (idsN (fstN M1)).Nodup := by rw [HF1.out]; exact ((normL_perm L).map _).nodup_iff.2 HRT.out.uni
    have hsm1 : Small M1 := small_norm HS.out (by rw [HF1.out, HL.out])
    have hk1' : ∀ x ∈ fstN M1, x.fr.length ≤ 1000 ∧ x.pg.length ≤ 1000 := fun x hx => HK.out x (by rw [HF1.out, normL_mem, HL.out] at hx; exact hx)
    have hrcc : chgN (fstN M1) ⟨kd, cy, crs⟩ = rc := by rw [HRC.out, HF1.out, ← HC1.out, HEQ.out]
    have HADD := Lib.hid (fun (h2 : kd = 2) => (by
      subst h2
      rw [← hrcc]
      exact add_chg gw gr n c1 cy crs _ _ i M1 w4 W4.out HAI.out hnod (by omega) : Calls Tryz.prog 88 #[.pointer (some ⟨gw, 0, none⟩)] w4 (ChgOut rc kd cy crs (.slice A1 n1 c1') (.slice A2 n2 c2) i gw gr w4)))
    have HCHG := Lib.hid (fun (h2 : kd = 1 ∨ kd = 3 ∨ kd = 4 ∨ kd = 5) => (by
      rw [← hrcc]
      exact change_any gw gr n c1 kd cy crs _ _ i M1 w4 W4.out h2 HAI.out hnod hsm1 (by omega) (by have := HC4.out.2; omega) : Calls Tryz.prog 89 #[.pointer (some ⟨gw, 0, none⟩)] w4 (ChgOut rc kd cy crs (.slice A1 n1 c1') (.slice A2 n2 c2) i gw gr w4)))
    have HSML := Lib.hid (fun (M' : List Ndm) (h : fstN M' = rc.2) => chg_sml (M := M1) (M' := M') (s := ⟨kd, y, rs⟩) (K := 1000) (by rw [← HM1.out]; omega) hk1' h1 h2 (by rw [h, HRC.out]))
    have HLEN := Lib.hid (fun (M' : List Ndm) (h : fstN M' = rc.2) => (by
      have h3 := chg_le (fstN M1) ⟨kd, y, rs⟩
      rw [← HRC.out, ← h] at h3
      simp only [fstN, List.length_map] at h3
      rw [← HM1.out] at h3
      omega : M'.length ≤ 20))
    have HRR := Lib.hid (show r = endN rc by
      rw [HR.out, HRC.out, HF1.out]
      unfold stepN
      rw [if_neg (by rw [← HCV.out]; simp), if_neg hk1])
    have hgwb : ¬ gw < w.heap.size := by omega
    have hgrb : ¬ gr < w.heap.size := by omega
    clear hnod hsm1 hk1' hrcc W4 BS4 HAI HR
    obtain ⟨T1, hT1⟩ : ∃ T, T = Value.slice A1 n1 c1' := ⟨_, rfl⟩
    obtain ⟨T2, hT2⟩ : ∃ T, T = Value.slice A2 n2 c2 := ⟨_, rfl⟩
    rw [← hT1, ← hT2] at HADD HCHG
    clear hT1 hT2
    rcases HKE.out with hk2 | hk2
    case' inl =>
      have HG := Lib.hid (HADD.out hk2)
      rw [hk2] at k0
      have HK2 := Lib.hid hk2
      clear hk2 HADD HCHG HKE
      go_wp2_with fail
      refine HG.out.mono ?_
    case' inr =>
      have HG := Lib.hid (HCHG.out hk2)
      have hkn := kd_ne (show kd ≠ 2 by omega)
      have HK2 := Lib.hid hk2
      clear hk2 HADD HCHG HKE
      go_wp2_with fail
      refine HG.out.mono ?_
    all_goals
      rintro e w5 (⟨e1, rfl, f5⟩ | ⟨e1, rfl, A', n', c', M', hb5, ho5, hn5, he5, hf5, f5⟩)
      · have F5 := Lib.hid (F4.out.trans (f5.mono (B' := w.heap.size) (L' := []) F4.out.size (by
          intro q hq hlt
          simp at hq
          rcases hq with h | h
          · exact absurd hlt (by rw [h]; exact hgwb)
          · exact absurd hlt (by rw [h]; exact hgrb))))
        have HR1 := Lib.hid (show r = (rc.1, []) by rw [HRR.out]; unfold endN; rw [if_pos e1])
        have hcb : (rc.1 == 0) = false := kd_ne e1
        have E1 := Lib.hid e1
        clear f5 HG e1 k0
        go_wp2_with fail
        go_ret2
        rw [HR1.out]
        exact .inl ⟨E1.out, rfl, F5.out⟩
      · have F5 := Lib.hid (F4.out.trans (f5.mono (B' := w.heap.size) (L' := []) F4.out.size (by
          intro q hq hlt
          simp at hq
          rcases hq with h | h
          · exact absurd hlt (by rw [h]; exact hgwb)
          · exact absurd hlt (by rw [h]; exact hgrb))))
        have hs5 := HSML.out M' hf5
        have hs5' : Small M' := ⟨by omega, fun m hm => ⟨by have := (hs5.2 m hm).1; omega, by have := (hs5.2 m hm).2; omega⟩⟩
        have nd5 : Nds w5 w5.heap.size A' n' M' := ⟨hn5, Reads.of_own ho5, fun m hm => (he5 m hm).inn⟩
        have hn20 : n' ≤ 20 := by rw [hn5]; exact HLEN.out M' hf5
        obtain ⟨cv2, hcv2⟩ : ∃ v, v = checkN rc.2 := ⟨_, rfl⟩
        have HCK2 := Lib.hid (by rw [hcv2, ← hf5]; exact gcheck_any A' c' w5.heap.size n' M' w5 nd5 (Nat.le_refl _) hs5' : Calls Tryz.prog 16 #[.slice A' n' c'] w5 fun e w' => e = .returned (.int .i64 cv2) ∧ Fr w5.heap.size [] w5 w')
        have HNM2 := Lib.hid (fun (wx : World) (hx : Fr w5.heap.size [] w5 wx) => (by rw [← hf5]; exact norm_any A' c' w5.heap.size n' M' wx (nd5.frw hx (Nat.le_refl _) (by simp)) hx.size hs5' hn20 : Calls Tryz.prog 39 #[.slice A' n' c'] wx (NormOut rc.2 wx)))
        have HRE := Lib.hid (show r = if cv2 ≠ 0 then (cv2, []) else (0, normL rc.2) by rw [HRR.out, hcv2]; unfold endN; rw [if_neg (by rw [e1]; simp)])
        have HB5 := Lib.hid hb5
        have q0 := hb5.cell 0
        simp at q0
        clear hs5 hs5' nd5 hn20 hcv2 hb5 ho5 hn5 he5 hf5 f5 e1 HG k0 HRR HSML HLEN
        go_wp2_with fail
        refine HCK2.out.mono ?_
        rintro e w6 ⟨rfl, f6⟩
        have F6 := Lib.hid (F5.out.trans (f6.mono (B' := w.heap.size) (L' := []) F5.out.size (by simp)))
        have HN6 := Lib.hid (HNM2.out w6 f6)
        have q0 := (HB5.out.fr f6 HB5.out.lt (by simp)).cell 0
        simp at q0
        clear f6 HNM2 HCK2 HB5 F5
        by_cases hc2 : cv2 = 0
        · subst hc2
          have HR1 := Lib.hid (show r = (0, normL rc.2) by rw [HRE.out]; rfl)
          clear HRE
          go_wp2_with fail
          refine HN6.out.mono ?_
          rintro e w7 ⟨A7, c7, n7, M7, hn7, rfl, ho7, hi7, hf7, f7⟩
          have F7 := Lib.hid (F6.out.trans (f7.mono (B' := w.heap.size) (L' := []) F6.out.size (by simp)))
          have ND7 := Lib.hid ((⟨hn7, ho7, hi7⟩ : Nmd w6.heap.size w7 A7 n7 c7 M7).low F6.out.size)
          have HF7 := Lib.hid hf7
          clear hn7 ho7 hi7 hf7 f7 HN6
          go_wp2_with fail
          go_ret2
          rw [HR1.out]
          exact .inr ⟨rfl, A7, c7, n7, M7, rfl, ND7.out, HF7.out, F7.out⟩
        · have HR1 := Lib.hid (show r = (cv2, []) by rw [HRE.out, if_pos hc2])
          have hcb := kd_ne hc2
          have HC2 := Lib.hid hc2
          clear HRE hc2
          go_wp2_with fail
          go_ret2
          rw [HR1.out]
          exact .inl ⟨HC2.out, rfl, F6.out⟩
end Go.Proofs.YthfibggbipkmfaaGreat
namespace Go.Proofs.YthfibggbipkmfaaGreat
open Go.RowKit Go.Fb
set_option linter.unusedVariables false
/-- A step with its node's two slices. -/
abbrev Stm := Stp × Value × Value
def stL (m : Stm) : List Value := (stV m.1 m.2.1 m.2.2).toList
def cellsS (S : List Stm) : List Value := S.flatMap stL
theorem cellsS_length (S : List Stm) : (cellsS S).length = S.length * 15 := by
  unfold cellsS
  induction S with
  | nil => rfl
  | cons x S ih => rw [List.flatMap_cons, List.length_append, ih]; simp [stL]; omega
theorem cellsS_get : ∀ {S : List Stm} {k : Nat} {m : Stm}, S[k]? = some m → ∀ j, j < 15 → (cellsS S)[k * 15 + j]? = (stL m)[j]?
  | [], k, x, h, _, _ => by simp at h
  | y :: l, 0, x, h, j, hj => by
    simp at h
    subst h
    rw [cellsS, List.flatMap_cons, Nat.zero_mul, Nat.zero_add, List.getElem?_append_left (by simp [stL]; omega)]
  | y :: l, k + 1, x, h, j, hj => by
    rw [cellsS, List.flatMap_cons, List.getElem?_append_right (by simp [stL]; omega)]
    have ih := cellsS_get (S := l) (k := k) (m := x) (by simpa using h) j hj
    have e : (k + 1) * 15 + j - (stL y).length = k * 15 + j := by simp [stL]; omega
    rw [e]
    exact ih
/-- A list of steps that a slice reads. -/
structure Sts (w : World) (B : Nat) (A : Option Addr) (n : Nat) (S : List Stm) : Prop where
  num : n = S.length
  rd : Reads w B 15 A n (cellsS S)
  inn : ∀ m ∈ S, NdIn w B (m.1.nd, m.2.1, m.2.2)
theorem Sts.frw {w w' : World} {B B' n : Nat} {A : Option Addr} {L : List Nat} {S : List Stm} (h : Sts w B A n S) (hf : Fr B' L w w') (hB : B ≤ B') (hL : ∀ k ∈ L, B ≤ k) : Sts w' B A n S :=
  ⟨h.num, h.rd.fr hf hB hL, fun m hm => (h.inn m hm).frw hf hB hL⟩
theorem Sts.more {w : World} {B B' n : Nat} {A : Option Addr} {S : List Stm} (h : Sts w B A n S) (hB : B ≤ B') : Sts w B' A n S :=
  ⟨h.num, h.rd.more hB, fun m hm => (h.inn m hm).more hB⟩
theorem Sts.get {w : World} {B n : Nat} {A : Option Addr} {S : List Stm} (h : Sts w B A n S) {k : Nat} {m : Stm} (hk : S[k]? = some m) :
    ∃ b off, A = some ⟨b, off, none⟩ ∧ b < B ∧ ∀ j u, (stL m)[j]? = some u → w.cell? ⟨b, off + k * 15 + j, none⟩ = some u := by
  have hkn : k < n := by
    rw [h.num]
    rcases Nat.lt_or_ge k S.length with h | h
    · exact h
    · rw [List.getElem?_eq_none h] at hk; cases hk
  obtain ⟨b, off, e, hb, hc⟩ := h.rd.2 (by omega)
  refine ⟨b, off, e, hb, fun j u hu => ?_⟩
  have hj : j < 15 := by
    rcases Nat.lt_or_ge j 15 with h | h
    · exact h
    · rw [List.getElem?_eq_none (by simp [stL]; omega)] at hu; cases hu
  rw [Nat.add_assoc]
  exact hc _ u (by rw [cellsS_get hk j hj]; exact hu)
/-- No step's node is great. -/
def SmallS (S : List Stm) : Prop := ∀ m ∈ S, m.1.nd.fr.length ≤ 1000 ∧ m.1.nd.pg.length ≤ 1000
def fstS (S : List Stm) : List Stp := S.map (·.1)
theorem right_small {L : List Nd} (h : RightG L) : ∀ x ∈ L, x.fr.length ≤ 1000 ∧ x.pg.length ≤ 1000 := by
  intro x hx
  obtain ⟨_, _, hk, _, _⟩ := nodeB_iff.1 (h.each x hx)
  have hpg : ∀ l, (chkL l).isSome = true → l.length ≤ 1000 := by
    intro l hl
    obtain ⟨s, hs⟩ := Option.isSome_iff_exists.1 hl
    unfold chkL at hs
    by_cases hf : fitsB l = true
    · unfold fitsB at hf
      rw [Bool.and_eq_true] at hf
      have := of_decide_eq_true hf.1
      omega
    · rw [if_neg hf] at hs; cases hs
  unfold kindB at hk
  split at hk
  · simp only [Bool.and_eq_true, decide_eq_true_eq] at hk
    omega
  split at hk
  · simp only [Bool.and_eq_true, decide_eq_true_eq] at hk
    exact ⟨by omega, hpg _ hk.2.2⟩
  split at hk
  · simp only [Bool.and_eq_true, decide_eq_true_eq] at hk
    omega
  · cases hk
theorem step_right {L : List Nd} {s : Stp} (h : (stepN L s).1 = 0) : RightG (stepN L s).2 := by
  obtain ⟨h1, h2⟩ := (step_agree (List.Perm.refl L) s).2 h
  rw [h2]
  exact right_perm (normL_perm _).symm h1
theorem small_right {M : List Ndm} (h : RightG (fstN M)) : Small M := by
  refine ⟨?_, fun m hm => ?_⟩
  · have := h.len
    simp only [fstN, List.length_map] at this
    omega
  · have := right_small h m.1 (List.mem_map.2 ⟨m, hm, rfl⟩)
    omega
end Go.Proofs.YthfibggbipkmfaaGreat
namespace Go.Proofs.YthfibggbipkmfaaGreat
open Go.RowKit Go.Fb
set_option linter.unusedVariables false
/-- What a plan leaves. -/
def ApOut (r : Int × Nat × List Nd) (w : World) (e : Ending) (w' : World) : Prop :=
  (r.1 ≠ 0 ∧ e = .returned (.tuple #[.slice none 0 0, .int .i64 (r.2.1 : Int), .int .i64 r.1]) ∧ Fr w.heap.size [] w w') ∨
  (r.1 = 0 ∧ ∃ A c n M, e = .returned (.tuple #[.slice A n c, .int .i64 0, .int .i64 0]) ∧ Nmd w.heap.size w' A n c M ∧ fstN M = r.2.2 ∧ RightG r.2.2 ∧ Fr w.heap.size [] w w')
/-- Where the walk through a plan stands. -/
structure GoJ (L : List Nd) (P : List Stp) (A : Option Addr) (c n : Nat) (w wr : World) (k : Nat) (Al : Option Addr) (nl cl : Nat) (Ml : List Ndm) : Prop where
  fr : Fr w.heap.size [] w wr
  nds : Nds wr wr.heap.size Al nl Ml
  rt : RightG (fstN Ml)
  go : goN 0 L P = goN k (fstN Ml) (P.drop k)
  nmd : 0 < k → Nmd w.heap.size wr Al nl cl Ml
theorem GoJ.next {L : List Nd} {P : List Stp} {A : Option Addr} {c n : Nat} {w wr w' : World} {k : Nat} {Al : Option Addr} {nl cl : Nat} {Ml : List Ndm} (h : GoJ L P A c n w wr k Al nl cl Ml) {s : Stp} (hs : P[k]? = some s) (h0 : (stepN (fstN Ml) s).1 = 0)
    {A' : Option Addr} {n' c' : Nat} {M' : List Ndm} (hn : Nmd wr.heap.size w' A' n' c' M') (hf : fstN M' = (stepN (fstN Ml) s).2) (hfr : Fr wr.heap.size [] wr w') : GoJ L P A c n w w' (k + 1) A' n' c' M' := by
  refine ⟨h.fr.trans (hfr.mono (B' := w.heap.size) (L' := []) h.fr.size (by simp)), hn.nds (L := []) (Fr.refl _ _ _) (by simp), by rw [hf]; exact step_right h0, ?_, fun _ => hn.low h.fr.size⟩
  rw [h.go]
  have hk : k < P.length := by
    rcases Nat.lt_or_ge k P.length with h | h
    · exact h
    · rw [List.getElem?_eq_none h] at hs; cases hs
  have hd : P.drop k = s :: P.drop (k + 1) := by
    rw [List.drop_eq_getElem_cons hk]
    congr 1
    rw [List.getElem?_eq_getElem hk] at hs
    injection hs
  rw [hd]
  show (if (stepN (fstN Ml) s).1 ≠ 0 then _ else _) = _
  rw [if_neg (by rw [h0]; simp), hf]
theorem GoJ.stop {L : List Nd} {P : List Stp} {A : Option Addr} {c n : Nat} {w wr : World} {k : Nat} {Al : Option Addr} {nl cl : Nat} {Ml : List Ndm} (h : GoJ L P A c n w wr k Al nl cl Ml) {s : Stp} (hs : P[k]? = some s) (h0 : (stepN (fstN Ml) s).1 ≠ 0) : goN 0 L P = ((stepN (fstN Ml) s).1, k + 1, []) := by
  rw [h.go]
  have hk : k < P.length := by
    rcases Nat.lt_or_ge k P.length with h | h
    · exact h
    · rw [List.getElem?_eq_none h] at hs; cases hs
  have hd : P.drop k = s :: P.drop (k + 1) := by
    rw [List.drop_eq_getElem_cons hk]
    congr 1
    rw [List.getElem?_eq_getElem hk] at hs
    injection hs
  rw [hd]
  show (if (stepN (fstN Ml) s).1 ≠ 0 then _ else _) = _
  rw [if_pos h0]
set_option maxRecDepth 100000 in
set_option maxHeartbeats 4000000 in
theorem papply_any (A A2 : Option Addr) (c c2 B n n2 : Nat) (M : List Ndm) (S : List Stm) (w : World) (h : Nds w B A n M) (hB : B ≤ w.heap.size) (hs : Small M) (hS : Sts w B A2 n2 S) (hss : SmallS S) (hn2 : n2 ≤ 1000000) :
    Calls Tryz.prog 25 #[.slice A n c, .slice A2 n2 c2] w (ApOut (applyN (fstN M) (fstS S)) w) := by
  obtain ⟨L, hL⟩ : ∃ L, L = fstN M := ⟨_, rfl⟩
  obtain ⟨P, hP⟩ : ∃ P, P = fstS S := ⟨_, rfl⟩
  obtain ⟨cv, hcv⟩ : ∃ v, v = checkN L := ⟨_, rfl⟩
  obtain ⟨r, hr⟩ : ∃ r, r = applyN L P := ⟨_, rfl⟩
  rw [← hL, ← hP, ← hr]
  have hpl : P.length = n2 := by rw [hP, hS.num]; simp [fstS]
  have HCK := Lib.hid (by rw [hcv, hL]; exact gcheck_any A c B n M w h hB hs : Calls Tryz.prog 16 #[.slice A n c] w fun e w' => e = .returned (.int .i64 cv) ∧ Fr w.heap.size [] w w')
  have HR := Lib.hid hr
  have HCV := Lib.hid hcv
  have HL := Lib.hid hL
  have HP := Lib.hid hP
  have HPL := Lib.hid hpl
  have H := Lib.hid h
  have HSS := Lib.hid hss
  have HST := Lib.hid hS
  have HNU := Lib.hid hS.num
  clear hr hcv hL hP h hs hS hss hpl
  go_enter Tryz.func25, Tryz.ntmps25
  go_wp2_with fail
  refine HCK.out.mono ?_
  rintro e w1 ⟨rfl, f1⟩
  have F1 := Lib.hid f1
  clear f1 HCK
  by_cases hc : cv = 0
  case' neg =>
    have HR1 := Lib.hid (show r = (10, 0, []) by rw [HR.out]; unfold applyN; rw [if_pos (by rw [← HCV.out]; exact hc)])
    have hcb := kd_ne hc
    clear hc
    go_wp2_with fail
    go_ret3
    rw [HR1.out]
    exact .inl ⟨by simp, rfl, F1.out⟩
  subst hc
  by_cases hk1 : n2 < 1 ∨ 6 < n2
  case' pos =>
    have HR1 := Lib.hid (show r = (11, 0, []) by rw [HR.out]; unfold applyN; rw [if_neg (by rw [← HCV.out]; simp), if_pos (by rw [HPL.out]; exact hk1)])
    rcases hk1 with hk1 | hk1
    · obtain rfl : n2 = 0 := by omega
      go_wp2_with fail
      go_ret3
      rw [HR1.out]
      exact .inl ⟨by simp, rfl, F1.out⟩
    · have hk2 : ¬ ((n2 : Int) < 1) := by omega
      have hk3 : (6 : Int) < (n2 : Int) := by omega
      go_wp2_with fail
      go_ret3
      rw [HR1.out]
      exact .inl ⟨by simp, rfl, F1.out⟩
  have hka : ¬ ((n2 : Int) < 1) := by omega
  have hkb : ¬ ((6 : Int) < (n2 : Int)) := by omega
  have hn2p : 0 < n2 := by omega
  have hright : RightG L := checkN_zero.1 HCV.out.symm
  have J0 := Lib.hid (show GoJ L P A c n w w1 0 A n c M from ⟨F1.out, ((H.out.frw F1.out hB (by simp)).more (Nat.le_trans hB F1.out.size)), by rw [← HL.out]; exact hright, by rw [← HL.out]; rfl, fun h => absurd h (by omega)⟩)
  have HRR := Lib.hid (show r = goN 0 L P by rw [HR.out]; unfold applyN; rw [if_neg (by rw [← HCV.out]; simp), if_neg (by rw [HPL.out]; exact hk1)])
  clear hright HR HCV hk1
  go_wp2_with fail
  go_loopg [0, 8, 26] n2 (fun g s0 s8 s26 wr => ∃ (k : Nat) (Al : Option Addr) (nl cl : Nat) (Ml : List Ndm), k ≤ n2 ∧ g = n2 - k ∧ s26 = .int .i64 k ∧ (s8 = undef ∨ ∃ a, s8 = .pointer a) ∧ s0 = .slice Al nl cl ∧ RowKit.Hid (GoJ L P A c n w wr k Al nl cl Ml))
  case atStart => exact ⟨0, A, n, c, M, Nat.zero_le _, rfl, rfl, .inl rfl, rfl, J0⟩
  case round =>
    clear J0 F1
    obtain ⟨k, Al, nl, cl, Ml, hk, rfl, rfl, h8, rfl, J⟩ := hrel
    by_cases hkn : k < n2
    · have hki : (k : Int) < (n2 : Int) := by omega
      have hk0 : (0 : Int) ≤ (k : Int) := by omega
      obtain ⟨m, hx⟩ : ∃ m, S[k]? = some m := ⟨_, List.getElem?_eq_getElem (by rw [← HNU.out]; exact hkn)⟩
      have HSW := HST.out.frw J.out.fr hB (by simp)
      obtain ⟨b1, o1, rfl, hb1, hc1⟩ := HSW.get hx
      have hin := HSW.inn m (List.mem_of_getElem? hx)
      have hsm := HSS.out m (List.mem_of_getElem? hx)
      have HPK := Lib.hid (show P[k]? = some m.1 by rw [HP.out]; simp [fstS, hx])
      obtain ⟨⟨kd, y, rs⟩, sf, sp⟩ := m
      simp only at hin hsm HPK
      obtain ⟨⟨Af, cf, hf1, hf2⟩, ⟨Ap, cp, hp1, hp2⟩⟩ := hin
      simp only at hf1 hp1 hf2 hp2
      subst hf1
      subst hp1
      have hin2 : NdIn wr B (y, .slice Af y.fr.length cf, .slice Ap y.pg.length cp) := ⟨⟨Af, cf, rfl, hf2⟩, ⟨Ap, cp, rfl, hp2⟩⟩
      clear hf2 hp2
      obtain ⟨nf, hnf⟩ : ∃ z, z = y.fr.length := ⟨_, rfl⟩
      obtain ⟨np, hnp⟩ : ∃ z, z = y.pg.length := ⟨_, rfl⟩
      rw [← hnf, ← hnp] at hin2 hc1
      have p0 := hc1 0 (.int .i64 kd) rfl
      have p1 := hc1 1 (.int .i64 y.id) rfl
      have p2 := hc1 2 (.int .i64 y.kind) rfl
      have p3 := hc1 3 (.slice Af nf cf) rfl
      have p4 := hc1 4 (.slice Ap np cp) rfl
      have p5 := hc1 5 (.int .i64 y.par) rfl
      have p6 := hc1 6 (.int .i64 (y.rt 0)) rfl
      have p7 := hc1 7 (.int .i64 (y.rt 1)) rfl
      have p8 := hc1 8 (.int .i64 (y.rt 2)) rfl
      have p9 := hc1 9 (.int .i64 (y.rt 3)) rfl
      have p10 := hc1 10 (.int .i64 (y.rt 4)) rfl
      have p11 := hc1 11 (.int .i64 (y.rt 5)) rfl
      have p12 := hc1 12 (.int .i64 (y.rt 6)) rfl
      have p13 := hc1 13 (.int .i64 (y.rt 7)) rfl
      have p14 := hc1 14 (.bool rs) rfl
      simp only [Nat.add_zero] at p0
      have HIN := Lib.hid hin2
      have HSM := Lib.hid hsm
      clear hc1 hx HSW hsm hin2 hnf hnp
      have fa := (Fr.refl wr.heap.size [] wr).alloc (Nat.le_refl _) (.cells (stA kd y rs (.slice Af nf cf) (.slice Ap np cp)) 110)
      have BX := Lib.hid (Blk.new wr 110 (stA kd y rs (.slice Af nf cf) (.slice Ap np cp)))
      obtain ⟨sr, hsr⟩ : ∃ sr, sr = stepN (fstN Ml) ⟨kd, y, rs⟩ := ⟨_, rfl⟩
      have HPS := Lib.hid (by rw [hsr]; exact pstep_any Al cl wr.heap.size nl Ml ⟨kd, y, rs⟩ (.slice Af nf cf) (.slice Ap np cp) (wr.alloc (.cells (stA kd y rs (.slice Af nf cf) (.slice Ap np cp)) 110)) (J.out.nds.frw fa (Nat.le_refl _) (by simp)) fa.size (small_right J.out.rt) ((HIN.out.frw fa (Nat.le_trans hB J.out.fr.size) (by simp)).more (Nat.le_trans hB J.out.fr.size)) HSM.out.1 HSM.out.2 (right_small J.out.rt) : Calls Tryz.prog 49 #[.slice Al nl cl, .agg (stA kd y rs (.slice Af nf cf) (.slice Ap np cp))] (wr.alloc (.cells (stA kd y rs (.slice Af nf cf) (.slice Ap np cp)) 110)) (PStepOut sr (wr.alloc (.cells (stA kd y rs (.slice Af nf cf) (.slice Ap np cp)) 110))))
      have HSR := Lib.hid hsr
      have HFA := Lib.hid fa
      clear hsr fa hb1
      go_upto_region 8 with fail
      clear p0 p1 p2 p3 p4 p5 p6 p7 p8 p9 p10 p11 p12 p13 p14
      generalize wr.alloc (.cells (stA kd y rs (.slice Af nf cf) (.slice Ap np cp)) 110) = wa at *
      generalize wr.heap.size = gx at BX
      have q0 := BX.out.cell 0
      have q1 := BX.out.cell 1
      have q2 := BX.out.cell 2
      have q3 := BX.out.cell 3
      have q4 := BX.out.cell 4
      have q5 := BX.out.cell 5
      have q6 := BX.out.cell 6
      have q7 := BX.out.cell 7
      have q8 := BX.out.cell 8
      have q9 := BX.out.cell 9
      have q10 := BX.out.cell 10
      have q11 := BX.out.cell 11
      have q12 := BX.out.cell 12
      have q13 := BX.out.cell 13
      have q14 := BX.out.cell 14
      simp at q0 q1 q2 q3 q4 q5 q6 q7 q8 q9 q10 q11 q12 q13 q14
      go_wp2_with fail
      refine HPS.out.mono ?_
      rintro e w2 (⟨e1, rfl, f2⟩ | ⟨e1, A', c', n', M', rfl, hn', hf', f2⟩)
      · have F2 := Lib.hid (J.out.fr.trans ((HFA.out.trans (f2.mono (B' := wr.heap.size) (L' := []) HFA.out.size (by simp))).mono (B' := w.heap.size) (L' := []) J.out.fr.size (by simp)))
        have HR1 := Lib.hid (show r = (sr.1, k + 1, []) by rw [HRR.out, J.out.stop HPK.out (by rw [← HSR.out]; exact e1), ← HSR.out])
        have E1 := Lib.hid e1
        have hcb := kd_ne e1
        have hwk : IntKind.i64.wrap ((k : Int) + 1) = (k : Int) + 1 := by rw [IntKind.wrap_i64]; omega
        clear f2 e1 HPS HFA J
        go_wp2_with fail
        go_ret3
        rw [HR1.out]
        exact .inl ⟨E1.out, by simp, F2.out⟩
      · have J2 := Lib.hid (J.out.next HPK.out (by rw [← HSR.out]; exact e1) (hn'.low HFA.out.size) (by rw [hf', HSR.out]) (HFA.out.trans (f2.mono (B' := wr.heap.size) (L' := []) HFA.out.size (by simp))))
        clear hn' hf' f2 HPS HFA J e1
        go_wp2_with fail
        go_roundg (n2 - (k + 1))
        case measure => omega
        case rel => exact ⟨k + 1, A', n', c', M', by omega, rfl, by go_num, .inr ⟨_, rfl⟩, rfl, J2⟩
    · obtain rfl : k = n2 := by omega
      have HR1 := Lib.hid (show r = (0, 0, fstN Ml) by
        rw [HRR.out, J.out.go, List.drop_eq_nil_of_le (by rw [HPL.out]; exact Nat.le_refl _)]
        rfl)
      have ND := Lib.hid (J.out.nmd (by omega))
      go_wp2_with fail
      go_ret3
      rw [HR1.out]
      exact .inr ⟨rfl, Al, cl, nl, Ml, rfl, ND.out, rfl, J.out.rt, J.out.fr⟩
end Go.Proofs.YthfibggbipkmfaaGreat
