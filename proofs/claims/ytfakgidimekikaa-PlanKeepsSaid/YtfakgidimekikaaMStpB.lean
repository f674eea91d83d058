/- Texts merged into one, for the number of files a claim may have: StpB, Stp. -/
import Derived.Test.YtfakgidimekikaaMG
import Derived.Test.YtfakgidimekikaaMStill
import Derived.Test.YtfakgidimekikaaMStpA
namespace Go.Proofs.Ytfakgidimekikaa
open Go.RowKit Go.Fb
set_option linter.unusedVariables false
set_option maxRecDepth 100000 in
set_option maxHeartbeats 16000000 in
theorem clean_2 (kd : Int) (x : Nd) (rs : Bool) (sf sp : Value) (B : Nat) (w : World) (hkd : kd = 2) (h : NdIn w B (x, sf, sp)) (hB : B ≤ w.heap.size) (h1 : x.fr.length ≤ 1000000) (h2 : x.pg.length ≤ 1000000) :
    Calls Try.prog 9 #[.agg (stA kd x rs sf sp)] w (CleanOut ⟨kd, x, rs⟩ w) := by
  have HKD := Lib.hid hkd
  clear hkd
  obtain ⟨⟨Af, cf, hf1, hf2⟩, ⟨Ap, cp, hp1, hp2⟩⟩ := h
  simp only at hf1 hf2 hp1 hp2
  subst hf1
  subst hp1
  obtain ⟨nf, hnf⟩ : ∃ z, z = x.fr.length := ⟨_, rfl⟩
  obtain ⟨np, hnp⟩ : ∃ z, z = x.pg.length := ⟨_, rfl⟩
  have RP := Lib.hid hp2
  have RF := Lib.hid hf2
  rw [← hnf] at RF h1 ⊢
  rw [← hnp] at RP h2 ⊢
  have HNF := Lib.hid hnf
  have HNP := Lib.hid hnp
  obtain ⟨cs, hcs⟩ : ∃ c, c = cleanS ⟨kd, x, rs⟩ := ⟨_, rfl⟩
  obtain ⟨Q, hQ⟩ : ∃ Q, Q = CleanOut ⟨kd, x, rs⟩ w := ⟨_, rfl⟩
  rw [← hQ]
  have HOUT := Lib.hid (fun (tf tp : Value) (w' : World) (ha : NdIn w' w'.heap.size (cs.nd, tf, tp)) (hb : Fresh w.heap.size tf) (hc : Fresh w.heap.size tp) (hd : Fr w.heap.size [] w w') => (by
    rw [hQ]
    unfold CleanOut
    rw [← hcs]
    exact ⟨tf, tp, rfl, ha, hb, hc, hd⟩ : Q (.returned (.agg (stV cs tf tp))) w'))
  have HCS := Lib.hid hcs
  have b1 := (((Blk.new w 37 (stA kd x rs (.slice Af nf cf) (.slice Ap np cp))).alloc (.cells #[.int .i64 0, .int .i64 0, .int .i64 0, .slice none 0 0, .slice none 0 0, .int .i64 0, .int .i64 0, .int .i64 0, .int .i64 0, .int .i64 0, .int .i64 0, .int .i64 0, .int .i64 0, .int .i64 0, .bool false] 37)).alloc (.cells #[.int .i64 x.id, .int .i64 x.kind, .slice Af nf cf, .slice Ap np cp, .int .i64 x.par, .int .i64 (x.rt 0), .int .i64 (x.rt 1), .int .i64 (x.rt 2), .int .i64 (x.rt 3), .int .i64 (x.rt 4), .int .i64 (x.rt 5), .int .i64 (x.rt 6), .int .i64 (x.rt 7)] 35)).alloc (.cells #[.int .i64 kd, .int .i64 0, .int .i64 0, .slice none 0 0, .slice none 0 0, .int .i64 0, .int .i64 0, .int .i64 0, .int .i64 0, .int .i64 0, .int .i64 0, .int .i64 0, .int .i64 0, .int .i64 0, .bool false] 37)
  have b2 := ((Blk.new (w.alloc (.cells (stA kd x rs (.slice Af nf cf) (.slice Ap np cp)) 37)) 37 #[.int .i64 0, .int .i64 0, .int .i64 0, .slice none 0 0, .slice none 0 0, .int .i64 0, .int .i64 0, .int .i64 0, .int .i64 0, .int .i64 0, .int .i64 0, .int .i64 0, .int .i64 0, .int .i64 0, .bool false]).alloc (.cells #[.int .i64 x.id, .int .i64 x.kind, .slice Af nf cf, .slice Ap np cp, .int .i64 x.par, .int .i64 (x.rt 0), .int .i64 (x.rt 1), .int .i64 (x.rt 2), .int .i64 (x.rt 3), .int .i64 (x.rt 4), .int .i64 (x.rt 5), .int .i64 (x.rt 6), .int .i64 (x.rt 7)] 35)).alloc (.cells #[.int .i64 kd, .int .i64 0, .int .i64 0, .slice none 0 0, .slice none 0 0, .int .i64 0, .int .i64 0, .int .i64 0, .int .i64 0, .int .i64 0, .int .i64 0, .int .i64 0, .int .i64 0, .int .i64 0, .bool false] 37)
  have b3 := (Blk.new ((w.alloc (.cells (stA kd x rs (.slice Af nf cf) (.slice Ap np cp)) 37)).alloc (.cells #[.int .i64 0, .int .i64 0, .int .i64 0, .slice none 0 0, .slice none 0 0, .int .i64 0, .int .i64 0, .int .i64 0, .int .i64 0, .int .i64 0, .int .i64 0, .int .i64 0, .int .i64 0, .int .i64 0, .bool false] 37)) 35 #[.int .i64 x.id, .int .i64 x.kind, .slice Af nf cf, .slice Ap np cp, .int .i64 x.par, .int .i64 (x.rt 0), .int .i64 (x.rt 1), .int .i64 (x.rt 2), .int .i64 (x.rt 3), .int .i64 (x.rt 4), .int .i64 (x.rt 5), .int .i64 (x.rt 6), .int .i64 (x.rt 7)]).alloc (.cells #[.int .i64 kd, .int .i64 0, .int .i64 0, .slice none 0 0, .slice none 0 0, .int .i64 0, .int .i64 0, .int .i64 0, .int .i64 0, .int .i64 0, .int .i64 0, .int .i64 0, .int .i64 0, .int .i64 0, .bool false] 37)
  have b4 := Blk.new (((w.alloc (.cells (stA kd x rs (.slice Af nf cf) (.slice Ap np cp)) 37)).alloc (.cells #[.int .i64 0, .int .i64 0, .int .i64 0, .slice none 0 0, .slice none 0 0, .int .i64 0, .int .i64 0, .int .i64 0, .int .i64 0, .int .i64 0, .int .i64 0, .int .i64 0, .int .i64 0, .int .i64 0, .bool false] 37)).alloc (.cells #[.int .i64 x.id, .int .i64 x.kind, .slice Af nf cf, .slice Ap np cp, .int .i64 x.par, .int .i64 (x.rt 0), .int .i64 (x.rt 1), .int .i64 (x.rt 2), .int .i64 (x.rt 3), .int .i64 (x.rt 4), .int .i64 (x.rt 5), .int .i64 (x.rt 6), .int .i64 (x.rt 7)] 35)) 37 #[.int .i64 kd, .int .i64 0, .int .i64 0, .slice none 0 0, .slice none 0 0, .int .i64 0, .int .i64 0, .int .i64 0, .int .i64 0, .int .i64 0, .int .i64 0, .int .i64 0, .int .i64 0, .int .i64 0, .bool false]
  simp only [World.size_alloc] at b2 b3 b4
  have fA := (((((Fr.refl w.heap.size [] w).alloc (Nat.le_refl _) (.cells (stA kd x rs (.slice Af nf cf) (.slice Ap np cp)) 37)).alloc (by simp) (.cells #[.int .i64 0, .int .i64 0, .int .i64 0, .slice none 0 0, .slice none 0 0, .int .i64 0, .int .i64 0, .int .i64 0, .int .i64 0, .int .i64 0, .int .i64 0, .int .i64 0, .int .i64 0, .int .i64 0, .bool false] 37)).alloc (by simp; omega) (.cells #[.int .i64 x.id, .int .i64 x.kind, .slice Af nf cf, .slice Ap np cp, .int .i64 x.par, .int .i64 (x.rt 0), .int .i64 (x.rt 1), .int .i64 (x.rt 2), .int .i64 (x.rt 3), .int .i64 (x.rt 4), .int .i64 (x.rt 5), .int .i64 (x.rt 6), .int .i64 (x.rt 7)] 35)).alloc (by simp; omega) (.cells #[.int .i64 kd, .int .i64 0, .int .i64 0, .slice none 0 0, .slice none 0 0, .int .i64 0, .int .i64 0, .int .i64 0, .int .i64 0, .int .i64 0, .int .i64 0, .int .i64 0, .int .i64 0, .int .i64 0, .bool false] 37))
  have hsa : ((((w.alloc (.cells (stA kd x rs (.slice Af nf cf) (.slice Ap np cp)) 37)).alloc (.cells #[.int .i64 0, .int .i64 0, .int .i64 0, .slice none 0 0, .slice none 0 0, .int .i64 0, .int .i64 0, .int .i64 0, .int .i64 0, .int .i64 0, .int .i64 0, .int .i64 0, .int .i64 0, .int .i64 0, .bool false] 37)).alloc (.cells #[.int .i64 x.id, .int .i64 x.kind, .slice Af nf cf, .slice Ap np cp, .int .i64 x.par, .int .i64 (x.rt 0), .int .i64 (x.rt 1), .int .i64 (x.rt 2), .int .i64 (x.rt 3), .int .i64 (x.rt 4), .int .i64 (x.rt 5), .int .i64 (x.rt 6), .int .i64 (x.rt 7)] 35)).alloc (.cells #[.int .i64 kd, .int .i64 0, .int .i64 0, .slice none 0 0, .slice none 0 0, .int .i64 0, .int .i64 0, .int .i64 0, .int .i64 0, .int .i64 0, .int .i64 0, .int .i64 0, .int .i64 0, .int .i64 0, .bool false] 37)).heap.size = w.heap.size + 1 + 1 + 1 + 1 := by simp only [World.size_alloc]
  have B1 := Lib.hid b1
  have B2 := Lib.hid b2
  have B3 := Lib.hid b3
  have B4 := Lib.hid b4
  have FA := Lib.hid fA
  have HSA := Lib.hid hsa
  clear hf2 hp2 hnf hnp hcs hQ b1 b2 b3 b4 fA hsa
  go_enter Try.func9, Try.ntmps9
  go_upto_region 3 with fail
  generalize (((w.alloc (.cells (stA kd x rs (.slice Af nf cf) (.slice Ap np cp)) 37)).alloc (.cells #[.int .i64 0, .int .i64 0, .int .i64 0, .slice none 0 0, .slice none 0 0, .int .i64 0, .int .i64 0, .int .i64 0, .int .i64 0, .int .i64 0, .int .i64 0, .int .i64 0, .int .i64 0, .int .i64 0, .bool false] 37)).alloc (.cells #[.int .i64 x.id, .int .i64 x.kind, .slice Af nf cf, .slice Ap np cp, .int .i64 x.par, .int .i64 (x.rt 0), .int .i64 (x.rt 1), .int .i64 (x.rt 2), .int .i64 (x.rt 3), .int .i64 (x.rt 4), .int .i64 (x.rt 5), .int .i64 (x.rt 6), .int .i64 (x.rt 7)] 35)).alloc (.cells #[.int .i64 kd, .int .i64 0, .int .i64 0, .slice none 0 0, .slice none 0 0, .int .i64 0, .int .i64 0, .int .i64 0, .int .i64 0, .int .i64 0, .int .i64 0, .int .i64 0, .int .i64 0, .int .i64 0, .bool false] 37) = wa at *
  obtain ⟨g, hg⟩ : ∃ g, g = w.heap.size := ⟨_, rfl⟩
  rw [← hg] at B1 B2 B3 B4 HSA
  try rw [← hg]
  have HG := Lib.hid hg
  clear hg
  have k0 := B1.out.cell 0
  have k14 := B1.out.cell 14
  have n0 := B3.out.cell 0
  have n1 := B3.out.cell 1
  have n2 := B3.out.cell 2
  have n3 := B3.out.cell 3
  have n4 := B3.out.cell 4
  have n5 := B3.out.cell 5
  have n6 := B3.out.cell 6
  have n7 := B3.out.cell 7
  have n8 := B3.out.cell 8
  have n9 := B3.out.cell 9
  have n10 := B3.out.cell 10
  have n11 := B3.out.cell 11
  have n12 := B3.out.cell 12
  simp at k0 k14 n0 n1 n2 n3 n4 n5 n6 n7 n8 n9 n10 n11 n12
  have y1 := B4.out.frozen 1
  have y2 := B4.out.frozen 2
  have y3 := B4.out.frozen 3
  have y4 := B4.out.frozen 4
  have y5 := B4.out.frozen 5
  have y6 := B4.out.frozen 6
  have y7 := B4.out.frozen 7
  have y8 := B4.out.frozen 8
  have y9 := B4.out.frozen 9
  have y10 := B4.out.frozen 10
  have y11 := B4.out.frozen 11
  have y12 := B4.out.frozen 12
  have y13 := B4.out.frozen 13
  have y14 := B4.out.frozen 14
  have m1 := B4.out.cell 1
  have m2 := B4.out.cell 2
  have m3 := B4.out.cell 3
  have m4 := B4.out.cell 4
  have m5 := B4.out.cell 5
  have m6 := B4.out.cell 6
  have m7 := B4.out.cell 7
  have m8 := B4.out.cell 8
  have m9 := B4.out.cell 9
  have m10 := B4.out.cell 10
  have m11 := B4.out.cell 11
  have m12 := B4.out.cell 12
  have m13 := B4.out.cell 13
  have m14 := B4.out.cell 14
  simp at m1 m2 m3 m4 m5 m6 m7 m8 m9 m10 m11 m12 m13 m14
  by_cases e2 : kd = 2
  · subst e2
    obtain rfl : cs = ⟨2, x, false⟩ := by
      rw [HCS.out]
      unfold cleanS
      simp
    clear HCS
    have hnd := (Fr.refl wa.heap.size [] wa).alloc (Nat.le_refl _) (.cells #[.int .i64 x.id, .int .i64 x.kind, .slice Af nf cf, .slice Ap np cp, .int .i64 x.par, .int .i64 (x.rt 0), .int .i64 (x.rt 1), .int .i64 (x.rt 2), .int .i64 (x.rt 3), .int .i64 (x.rt 4), .int .i64 (x.rt 5), .int .i64 (x.rt 6), .int .i64 (x.rt 7)] 35)
    have hin : NdIn (wa.alloc (.cells #[.int .i64 x.id, .int .i64 x.kind, .slice Af nf cf, .slice Ap np cp, .int .i64 x.par, .int .i64 (x.rt 0), .int .i64 (x.rt 1), .int .i64 (x.rt 2), .int .i64 (x.rt 3), .int .i64 (x.rt 4), .int .i64 (x.rt 5), .int .i64 (x.rt 6), .int .i64 (x.rt 7)] 35)) B (x, .slice Af nf cf, .slice Ap np cp) := ⟨⟨Af, cf, by rw [HNF.out], by rw [← HNF.out]; exact (RF.out.fr FA.out hB (by simp)).fr hnd (Nat.le_trans hB FA.out.size) (by simp)⟩, ⟨Ap, cp, by rw [HNP.out], by rw [← HNP.out]; exact (RP.out.fr FA.out hB (by simp)).fr hnd (Nat.le_trans hB FA.out.size) (by simp)⟩⟩
    have hns : Nds (wa.alloc (.cells #[.int .i64 x.id, .int .i64 x.kind, .slice Af nf cf, .slice Ap np cp, .int .i64 x.par, .int .i64 (x.rt 0), .int .i64 (x.rt 1), .int .i64 (x.rt 2), .int .i64 (x.rt 3), .int .i64 (x.rt 4), .int .i64 (x.rt 5), .int .i64 (x.rt 6), .int .i64 (x.rt 7)] 35)) (wa.heap.size + 1) (some ⟨wa.heap.size, 0, none⟩) 1 [(x, .slice Af nf cf, .slice Ap np cp)] := ⟨rfl, by
      have := Reads.of_blk (size := 13) (m := 1) (Blk.new wa 35 #[.int .i64 x.id, .int .i64 x.kind, .slice Af nf cf, .slice Ap np cp, .int .i64 x.par, .int .i64 (x.rt 0), .int .i64 (x.rt 1), .int .i64 (x.rt 2), .int .i64 (x.rt 3), .int .i64 (x.rt 4), .int .i64 (x.rt 5), .int .i64 (x.rt 6), .int .i64 (x.rt 7)]) rfl
      exact this, fun m hm => by
      rw [List.mem_singleton.1 hm]
      exact hin.more (by have := FA.out.size; omega)⟩
    have HNM := Lib.hid (norm_any (some ⟨wa.heap.size, 0, none⟩) 1 (wa.heap.size + 1) 1 _ _ hns (by simp) ⟨by simp, fun m hm => by
      rw [List.mem_singleton.1 hm]
      exact ⟨by rw [← HNF.out]; exact h1, by rw [← HNP.out]; exact h2⟩⟩ (by omega))
    have HND := Lib.hid hnd
    clear hnd hin hns
    go_wp2_with fail
    refine HNM.out.mono ?_
    rintro e w5 ⟨A1, c1, n1, M1, hn1, rfl, ho1, hi1, hf1, f1⟩
    have hM : ∃ tf tp, M1 = [(x, tf, tp)] := by
      have e1 : fstN M1 = [x] := by rw [hf1]; exact normL_self (by simp [fstN])
      match M1, e1 with
      | [(y, a, b)], e1 =>
        simp only [fstN, List.map_cons, List.map_nil, List.cons.injEq, and_true] at e1
        subst e1
        exact ⟨a, b, rfl⟩
    obtain ⟨tf, tp, rfl⟩ := hM
    obtain rfl : n1 = 1 := hn1
    obtain ⟨gn, cap, hv, hbg, hlt⟩ := ho1.form (by omega)
    injection hv with hv1 _ hv3
    subst hv1
    subst hv3
    obtain ⟨⟨⟨A2, c2, hq1, hq2⟩, ⟨A3, c3, hq3, hq4⟩⟩, _, _, ff1, ff2⟩ := hi1 (x, tf, tp) List.mem_cons_self
    simp only at hq1 hq3 ff1 ff2 hq2 hq4
    subst hq1
    subst hq3
    have f5 : Fr wa.heap.size [] wa w5 := HND.out.trans (f1.mono (B' := wa.heap.size) (L' := []) HND.out.size (by simp))
    have B45 := Lib.hid (B4.out.fr f5 B4.out.lt (by simp))
    have B25 := Lib.hid (B2.out.fr f5 B2.out.lt (by simp))
    have F5 := Lib.hid (FA.out.trans (f5.mono (B' := w.heap.size) (L' := []) FA.out.size (by simp)))
    have NI5 := Lib.hid (show NdIn w5 w5.heap.size (x, .slice A2 x.fr.length c2, .slice A3 x.pg.length c3) from ⟨⟨A2, c2, rfl, hq2⟩, ⟨A3, c3, rfl, hq4⟩⟩)
    have hgz : g + 4 ≤ (wa.alloc (.cells #[.int .i64 x.id, .int .i64 x.kind, .slice Af nf cf, .slice Ap np cp, .int .i64 x.par, .int .i64 (x.rt 0), .int .i64 (x.rt 1), .int .i64 (x.rt 2), .int .i64 (x.rt 3), .int .i64 (x.rt 4), .int .i64 (x.rt 5), .int .i64 (x.rt 6), .int .i64 (x.rt 7)] 35)).heap.size := by have := HSA.out; simp; omega
    have FF := Lib.hid (fresh_le ff1 hgz)
    have FP := Lib.hid (fresh_le ff2 hgz)
    have r0 := nd_cell ho1 (k := 0) rfl 0 (.int .i64 x.id) rfl
    have r1 := nd_cell ho1 (k := 0) rfl 1 (.int .i64 x.kind) rfl
    have r2 := nd_cell ho1 (k := 0) rfl 2 (.slice A2 x.fr.length c2) rfl
    have r3 := nd_cell ho1 (k := 0) rfl 3 (.slice A3 x.pg.length c3) rfl
    have r4 := nd_cell ho1 (k := 0) rfl 4 (.int .i64 x.par) rfl
    have r5 := nd_cell ho1 (k := 0) rfl 5 (.int .i64 (x.rt 0)) rfl
    have r6 := nd_cell ho1 (k := 0) rfl 6 (.int .i64 (x.rt 1)) rfl
    have r7 := nd_cell ho1 (k := 0) rfl 7 (.int .i64 (x.rt 2)) rfl
    have r8 := nd_cell ho1 (k := 0) rfl 8 (.int .i64 (x.rt 3)) rfl
    have r9 := nd_cell ho1 (k := 0) rfl 9 (.int .i64 (x.rt 4)) rfl
    have r10 := nd_cell ho1 (k := 0) rfl 10 (.int .i64 (x.rt 5)) rfl
    have r11 := nd_cell ho1 (k := 0) rfl 11 (.int .i64 (x.rt 6)) rfl
    have r12 := nd_cell ho1 (k := 0) rfl 12 (.int .i64 (x.rt 7)) rfl
    simp at r0 r1 r2 r3 r4 r5 r6 r7 r8 r9 r10 r11 r12
    clear ho1 hi1 hf1 f1 hbg hlt ff1 ff2 hq2 hq4 hgz f5 HNM k0 k14 n0 n1 n2 n3 n4 n5 n6 n7 n8 n9 n10 n11 n12 y1 m1 y2 m2 y3 m3 y4 m4 y5 m5 y6 m6 y7 m7 y8 m8 y9 m9 y10 m10 y11 m11 y12 m12 y13 m13 y14 m14
    have y1 := B45.out.frozen 1
    have y2 := B45.out.frozen 2
    have y3 := B45.out.frozen 3
    have y4 := B45.out.frozen 4
    have y5 := B45.out.frozen 5
    have y6 := B45.out.frozen 6
    have y7 := B45.out.frozen 7
    have y8 := B45.out.frozen 8
    have y9 := B45.out.frozen 9
    have y10 := B45.out.frozen 10
    have y11 := B45.out.frozen 11
    have y12 := B45.out.frozen 12
    have y13 := B45.out.frozen 13
    have m1 := B45.out.cell 1
    have m2 := B45.out.cell 2
    have m3 := B45.out.cell 3
    have m4 := B45.out.cell 4
    have m5 := B45.out.cell 5
    have m6 := B45.out.cell 6
    have m7 := B45.out.cell 7
    have m8 := B45.out.cell 8
    have m9 := B45.out.cell 9
    have m10 := B45.out.cell 10
    have m11 := B45.out.cell 11
    have m12 := B45.out.cell 12
    have m13 := B45.out.cell 13
    simp at m1 m2 m3 m4 m5 m6 m7 m8 m9 m10 m11 m12 m13
    go_upto_region 15 with fail
    generalize hwz : World.setCell _ _ _ = wz
    have d4 := blk_setL ([.int .i64 x.id, .int .i64 x.kind, (.slice A2 x.fr.length c2), (.slice A3 x.pg.length c3), .int .i64 x.par, .int .i64 (x.rt 0), .int .i64 (x.rt 1), .int .i64 (x.rt 2), .int .i64 (x.rt 3), .int .i64 (x.rt 4), .int .i64 (x.rt 5), .int .i64 (x.rt 6), .int .i64 (x.rt 7)]) 1 B45.out
    simp only [putL, List.setIfInBounds_toArray, List.set_cons_succ, List.set_cons_zero, Nat.reduceAdd] at d4
    have d2 := far_setL (g := g + 1 + 1 + 1) (by omega) ([.int .i64 x.id, .int .i64 x.kind, (.slice A2 x.fr.length c2), (.slice A3 x.pg.length c3), .int .i64 x.par, .int .i64 (x.rt 0), .int .i64 (x.rt 1), .int .i64 (x.rt 2), .int .i64 (x.rt 3), .int .i64 (x.rt 4), .int .i64 (x.rt 5), .int .i64 (x.rt 6), .int .i64 (x.rt 7)]) 1 B25.out
    have fz := fr_setL (g := g + 1 + 1 + 1) (.inl (by have := HG.out; omega)) ([.int .i64 x.id, .int .i64 x.kind, (.slice A2 x.fr.length c2), (.slice A3 x.pg.length c3), .int .i64 x.par, .int .i64 (x.rt 0), .int .i64 (x.rt 1), .int .i64 (x.rt 2), .int .i64 (x.rt 3), .int .i64 (x.rt 4), .int .i64 (x.rt 5), .int .i64 (x.rt 6), .int .i64 (x.rt 7)]) 1 F5.out
    have fs := fr_setL (g := g + 1 + 1 + 1) (.inr (by simp)) ([.int .i64 x.id, .int .i64 x.kind, (.slice A2 x.fr.length c2), (.slice A3 x.pg.length c3), .int .i64 x.par, .int .i64 (x.rt 0), .int .i64 (x.rt 1), .int .i64 (x.rt 2), .int .i64 (x.rt 3), .int .i64 (x.rt 4), .int .i64 (x.rt 5), .int .i64 (x.rt 6), .int .i64 (x.rt 7)]) 1 (Fr.refl w5.heap.size [g + 1 + 1 + 1] w5)
    have D4 := Lib.hid (by rw [← hwz]; exact d4 : Blk wz (g + 1 + 1 + 1) 37 _)
    have D2 := Lib.hid (by rw [← hwz]; exact d2 : Blk wz (g + 1) 37 _)
    have FZ := Lib.hid (by rw [← hwz]; exact fz : Fr w.heap.size [] w wz)
    have FS := Lib.hid (by rw [← hwz]; exact fs : Fr w5.heap.size [g + 1 + 1 + 1] w5 wz)
    clear hwz d4 d2 fz fs
    have NIN := Lib.hid ((ndin_fresh NI5.out FF.out FP.out FS.out (Nat.le_refl _) (by intro k hk; simp at hk; omega)).more FS.out.size)
    clear FS NI5 y1 m1 y2 m2 y3 m3 y4 m4 y5 m5 y6 m6 y7 m7 y8 m8 y9 m9 y10 m10 y11 m11 y12 m12 y13 m13 r0 r1 r2 r3 r4 r5 r6 r7 r8 r9 r10 r11 r12
    have q0 := D4.out.cell 0
    have q1 := D4.out.cell 1
    have q2 := D4.out.cell 2
    have q3 := D4.out.cell 3
    have q4 := D4.out.cell 4
    have q5 := D4.out.cell 5
    have q6 := D4.out.cell 6
    have q7 := D4.out.cell 7
    have q8 := D4.out.cell 8
    have q9 := D4.out.cell 9
    have q10 := D4.out.cell 10
    have q11 := D4.out.cell 11
    have q12 := D4.out.cell 12
    have q13 := D4.out.cell 13
    have q14 := D4.out.cell 14
    simp at q0 q1 q2 q3 q4 q5 q6 q7 q8 q9 q10 q11 q12 q13 q14
    have z0 := D2.out.frozen 0
    have z1 := D2.out.frozen 1
    have z2 := D2.out.frozen 2
    have z3 := D2.out.frozen 3
    have z4 := D2.out.frozen 4
    have z5 := D2.out.frozen 5
    have z6 := D2.out.frozen 6
    have z7 := D2.out.frozen 7
    have z8 := D2.out.frozen 8
    have z9 := D2.out.frozen 9
    have z10 := D2.out.frozen 10
    have z11 := D2.out.frozen 11
    have z12 := D2.out.frozen 12
    have z13 := D2.out.frozen 13
    have z14 := D2.out.frozen 14
    have s0 := D2.out.cell 0
    have s1 := D2.out.cell 1
    have s2 := D2.out.cell 2
    have s3 := D2.out.cell 3
    have s4 := D2.out.cell 4
    have s5 := D2.out.cell 5
    have s6 := D2.out.cell 6
    have s7 := D2.out.cell 7
    have s8 := D2.out.cell 8
    have s9 := D2.out.cell 9
    have s10 := D2.out.cell 10
    have s11 := D2.out.cell 11
    have s12 := D2.out.cell 12
    have s13 := D2.out.cell 13
    have s14 := D2.out.cell 14
    simp at s0 s1 s2 s3 s4 s5 s6 s7 s8 s9 s10 s11 s12 s13 s14
    go_wp2_with fail
    have be := blk_setL ([.int .i64 2, .int .i64 x.id, .int .i64 x.kind, (.slice A2 x.fr.length c2), (.slice A3 x.pg.length c3), .int .i64 x.par, .int .i64 (x.rt 0), .int .i64 (x.rt 1), .int .i64 (x.rt 2), .int .i64 (x.rt 3), .int .i64 (x.rt 4), .int .i64 (x.rt 5), .int .i64 (x.rt 6), .int .i64 (x.rt 7), .bool false]) 0 D2.out
    simp only [putL, List.setIfInBounds_toArray, List.set_cons_succ, List.set_cons_zero, Nat.reduceAdd] at be
    have BE := Lib.hid be
    clear be
    have fe := fr_setL (g := g + 1) (.inr (by simp)) ([.int .i64 2, .int .i64 x.id, .int .i64 x.kind, (.slice A2 x.fr.length c2), (.slice A3 x.pg.length c3), .int .i64 x.par, .int .i64 (x.rt 0), .int .i64 (x.rt 1), .int .i64 (x.rt 2), .int .i64 (x.rt 3), .int .i64 (x.rt 4), .int .i64 (x.rt 5), .int .i64 (x.rt 6), .int .i64 (x.rt 7), .bool false]) 0 (Fr.refl wz.heap.size [g + 1] wz)
    have FE := Lib.hid (FZ.out.trans (fe.mono (B' := w.heap.size) (L' := []) FZ.out.size (by intro k hk hlt; have := HG.out; simp at hk; omega)))
    have NE := Lib.hid ((ndin_fresh NIN.out FF.out FP.out fe (Nat.le_refl _) (by intro k hk; simp at hk; omega)).more fe.size)
    refine bodyPost_ret (results_cell_row rfl _ _ (g + 1) 37 (stV (⟨2, x, false⟩ : Stp) (.slice A2 x.fr.length c2) (.slice A3 x.pg.length c3)) (0, 0) _ rfl BE.out Try.underlying37 rfl (by kernel_rfl)) rfl (HOUT.out (.slice A2 x.fr.length c2) (.slice A3 x.pg.length c3) _ NE.out (fresh_le FF.out (by have := HG.out; omega)) (fresh_le FP.out (by have := HG.out; omega)) FE.out)
  · exact absurd HKD.out e2
set_option maxRecDepth 100000 in
set_option maxHeartbeats 16000000 in
theorem clean_3 (kd : Int) (x : Nd) (rs : Bool) (sf sp : Value) (B : Nat) (w : World) (hkd : kd = 3) (h : NdIn w B (x, sf, sp)) (hB : B ≤ w.heap.size) (h1 : x.fr.length ≤ 1000000) (h2 : x.pg.length ≤ 1000000) :
    Calls Try.prog 9 #[.agg (stA kd x rs sf sp)] w (CleanOut ⟨kd, x, rs⟩ w) := by
  have HKD := Lib.hid hkd
  clear hkd
  obtain ⟨⟨Af, cf, hf1, hf2⟩, ⟨Ap, cp, hp1, hp2⟩⟩ := h
  simp only at hf1 hf2 hp1 hp2
  subst hf1
  subst hp1
  obtain ⟨nf, hnf⟩ : ∃ z, z = x.fr.length := ⟨_, rfl⟩
  obtain ⟨np, hnp⟩ : ∃ z, z = x.pg.length := ⟨_, rfl⟩
  have RP := Lib.hid hp2
  have RF := Lib.hid hf2
  rw [← hnf] at RF h1 ⊢
  rw [← hnp] at RP h2 ⊢
  have HNF := Lib.hid hnf
  have HNP := Lib.hid hnp
  obtain ⟨cs, hcs⟩ : ∃ c, c = cleanS ⟨kd, x, rs⟩ := ⟨_, rfl⟩
  obtain ⟨Q, hQ⟩ : ∃ Q, Q = CleanOut ⟨kd, x, rs⟩ w := ⟨_, rfl⟩
  rw [← hQ]
  have HOUT := Lib.hid (fun (tf tp : Value) (w' : World) (ha : NdIn w' w'.heap.size (cs.nd, tf, tp)) (hb : Fresh w.heap.size tf) (hc : Fresh w.heap.size tp) (hd : Fr w.heap.size [] w w') => (by
    rw [hQ]
    unfold CleanOut
    rw [← hcs]
    exact ⟨tf, tp, rfl, ha, hb, hc, hd⟩ : Q (.returned (.agg (stV cs tf tp))) w'))
  have HCS := Lib.hid hcs
  have b1 := (((Blk.new w 37 (stA kd x rs (.slice Af nf cf) (.slice Ap np cp))).alloc (.cells #[.int .i64 0, .int .i64 0, .int .i64 0, .slice none 0 0, .slice none 0 0, .int .i64 0, .int .i64 0, .int .i64 0, .int .i64 0, .int .i64 0, .int .i64 0, .int .i64 0, .int .i64 0, .int .i64 0, .bool false] 37)).alloc (.cells #[.int .i64 x.id, .int .i64 x.kind, .slice Af nf cf, .slice Ap np cp, .int .i64 x.par, .int .i64 (x.rt 0), .int .i64 (x.rt 1), .int .i64 (x.rt 2), .int .i64 (x.rt 3), .int .i64 (x.rt 4), .int .i64 (x.rt 5), .int .i64 (x.rt 6), .int .i64 (x.rt 7)] 35)).alloc (.cells #[.int .i64 kd, .int .i64 0, .int .i64 0, .slice none 0 0, .slice none 0 0, .int .i64 0, .int .i64 0, .int .i64 0, .int .i64 0, .int .i64 0, .int .i64 0, .int .i64 0, .int .i64 0, .int .i64 0, .bool false] 37)
  have b2 := ((Blk.new (w.alloc (.cells (stA kd x rs (.slice Af nf cf) (.slice Ap np cp)) 37)) 37 #[.int .i64 0, .int .i64 0, .int .i64 0, .slice none 0 0, .slice none 0 0, .int .i64 0, .int .i64 0, .int .i64 0, .int .i64 0, .int .i64 0, .int .i64 0, .int .i64 0, .int .i64 0, .int .i64 0, .bool false]).alloc (.cells #[.int .i64 x.id, .int .i64 x.kind, .slice Af nf cf, .slice Ap np cp, .int .i64 x.par, .int .i64 (x.rt 0), .int .i64 (x.rt 1), .int .i64 (x.rt 2), .int .i64 (x.rt 3), .int .i64 (x.rt 4), .int .i64 (x.rt 5), .int .i64 (x.rt 6), .int .i64 (x.rt 7)] 35)).alloc (.cells #[.int .i64 kd, .int .i64 0, .int .i64 0, .slice none 0 0, .slice none 0 0, .int .i64 0, .int .i64 0, .int .i64 0, .int .i64 0, .int .i64 0, .int .i64 0, .int .i64 0, .int .i64 0, .int .i64 0, .bool false] 37)
  have b3 := (Blk.new ((w.alloc (.cells (stA kd x rs (.slice Af nf cf) (.slice Ap np cp)) 37)).alloc (.cells #[.int .i64 0, .int .i64 0, .int .i64 0, .slice none 0 0, .slice none 0 0, .int .i64 0, .int .i64 0, .int .i64 0, .int .i64 0, .int .i64 0, .int .i64 0, .int .i64 0, .int .i64 0, .int .i64 0, .bool false] 37)) 35 #[.int .i64 x.id, .int .i64 x.kind, .slice Af nf cf, .slice Ap np cp, .int .i64 x.par, .int .i64 (x.rt 0), .int .i64 (x.rt 1), .int .i64 (x.rt 2), .int .i64 (x.rt 3), .int .i64 (x.rt 4), .int .i64 (x.rt 5), .int .i64 (x.rt 6), .int .i64 (x.rt 7)]).alloc (.cells #[.int .i64 kd, .int .i64 0, .int .i64 0, .slice none 0 0, .slice none 0 0, .int .i64 0, .int .i64 0, .int .i64 0, .int .i64 0, .int .i64 0, .int .i64 0, .int .i64 0, .int .i64 0, .int .i64 0, .bool false] 37)
  have b4 := Blk.new (((w.alloc (.cells (stA kd x rs (.slice Af nf cf) (.slice Ap np cp)) 37)).alloc (.cells #[.int .i64 0, .int .i64 0, .int .i64 0, .slice none 0 0, .slice none 0 0, .int .i64 0, .int .i64 0, .int .i64 0, .int .i64 0, .int .i64 0, .int .i64 0, .int .i64 0, .int .i64 0, .int .i64 0, .bool false] 37)).alloc (.cells #[.int .i64 x.id, .int .i64 x.kind, .slice Af nf cf, .slice Ap np cp, .int .i64 x.par, .int .i64 (x.rt 0), .int .i64 (x.rt 1), .int .i64 (x.rt 2), .int .i64 (x.rt 3), .int .i64 (x.rt 4), .int .i64 (x.rt 5), .int .i64 (x.rt 6), .int .i64 (x.rt 7)] 35)) 37 #[.int .i64 kd, .int .i64 0, .int .i64 0, .slice none 0 0, .slice none 0 0, .int .i64 0, .int .i64 0, .int .i64 0, .int .i64 0, .int .i64 0, .int .i64 0, .int .i64 0, .int .i64 0, .int .i64 0, .bool false]
  simp only [World.size_alloc] at b2 b3 b4
  have fA := (((((Fr.refl w.heap.size [] w).alloc (Nat.le_refl _) (.cells (stA kd x rs (.slice Af nf cf) (.slice Ap np cp)) 37)).alloc (by simp) (.cells #[.int .i64 0, .int .i64 0, .int .i64 0, .slice none 0 0, .slice none 0 0, .int .i64 0, .int .i64 0, .int .i64 0, .int .i64 0, .int .i64 0, .int .i64 0, .int .i64 0, .int .i64 0, .int .i64 0, .bool false] 37)).alloc (by simp; omega) (.cells #[.int .i64 x.id, .int .i64 x.kind, .slice Af nf cf, .slice Ap np cp, .int .i64 x.par, .int .i64 (x.rt 0), .int .i64 (x.rt 1), .int .i64 (x.rt 2), .int .i64 (x.rt 3), .int .i64 (x.rt 4), .int .i64 (x.rt 5), .int .i64 (x.rt 6), .int .i64 (x.rt 7)] 35)).alloc (by simp; omega) (.cells #[.int .i64 kd, .int .i64 0, .int .i64 0, .slice none 0 0, .slice none 0 0, .int .i64 0, .int .i64 0, .int .i64 0, .int .i64 0, .int .i64 0, .int .i64 0, .int .i64 0, .int .i64 0, .int .i64 0, .bool false] 37))
  have hsa : ((((w.alloc (.cells (stA kd x rs (.slice Af nf cf) (.slice Ap np cp)) 37)).alloc (.cells #[.int .i64 0, .int .i64 0, .int .i64 0, .slice none 0 0, .slice none 0 0, .int .i64 0, .int .i64 0, .int .i64 0, .int .i64 0, .int .i64 0, .int .i64 0, .int .i64 0, .int .i64 0, .int .i64 0, .bool false] 37)).alloc (.cells #[.int .i64 x.id, .int .i64 x.kind, .slice Af nf cf, .slice Ap np cp, .int .i64 x.par, .int .i64 (x.rt 0), .int .i64 (x.rt 1), .int .i64 (x.rt 2), .int .i64 (x.rt 3), .int .i64 (x.rt 4), .int .i64 (x.rt 5), .int .i64 (x.rt 6), .int .i64 (x.rt 7)] 35)).alloc (.cells #[.int .i64 kd, .int .i64 0, .int .i64 0, .slice none 0 0, .slice none 0 0, .int .i64 0, .int .i64 0, .int .i64 0, .int .i64 0, .int .i64 0, .int .i64 0, .int .i64 0, .int .i64 0, .int .i64 0, .bool false] 37)).heap.size = w.heap.size + 1 + 1 + 1 + 1 := by simp only [World.size_alloc]
  have B1 := Lib.hid b1
  have B2 := Lib.hid b2
  have B3 := Lib.hid b3
  have B4 := Lib.hid b4
  have FA := Lib.hid fA
  have HSA := Lib.hid hsa
  clear hf2 hp2 hnf hnp hcs hQ b1 b2 b3 b4 fA hsa
  go_enter Try.func9, Try.ntmps9
  go_upto_region 3 with fail
  generalize (((w.alloc (.cells (stA kd x rs (.slice Af nf cf) (.slice Ap np cp)) 37)).alloc (.cells #[.int .i64 0, .int .i64 0, .int .i64 0, .slice none 0 0, .slice none 0 0, .int .i64 0, .int .i64 0, .int .i64 0, .int .i64 0, .int .i64 0, .int .i64 0, .int .i64 0, .int .i64 0, .int .i64 0, .bool false] 37)).alloc (.cells #[.int .i64 x.id, .int .i64 x.kind, .slice Af nf cf, .slice Ap np cp, .int .i64 x.par, .int .i64 (x.rt 0), .int .i64 (x.rt 1), .int .i64 (x.rt 2), .int .i64 (x.rt 3), .int .i64 (x.rt 4), .int .i64 (x.rt 5), .int .i64 (x.rt 6), .int .i64 (x.rt 7)] 35)).alloc (.cells #[.int .i64 kd, .int .i64 0, .int .i64 0, .slice none 0 0, .slice none 0 0, .int .i64 0, .int .i64 0, .int .i64 0, .int .i64 0, .int .i64 0, .int .i64 0, .int .i64 0, .int .i64 0, .int .i64 0, .bool false] 37) = wa at *
  obtain ⟨g, hg⟩ : ∃ g, g = w.heap.size := ⟨_, rfl⟩
  rw [← hg] at B1 B2 B3 B4 HSA
  try rw [← hg]
  have HG := Lib.hid hg
  clear hg
  have k0 := B1.out.cell 0
  have k14 := B1.out.cell 14
  have n0 := B3.out.cell 0
  have n1 := B3.out.cell 1
  have n2 := B3.out.cell 2
  have n3 := B3.out.cell 3
  have n4 := B3.out.cell 4
  have n5 := B3.out.cell 5
  have n6 := B3.out.cell 6
  have n7 := B3.out.cell 7
  have n8 := B3.out.cell 8
  have n9 := B3.out.cell 9
  have n10 := B3.out.cell 10
  have n11 := B3.out.cell 11
  have n12 := B3.out.cell 12
  simp at k0 k14 n0 n1 n2 n3 n4 n5 n6 n7 n8 n9 n10 n11 n12
  have y1 := B4.out.frozen 1
  have y2 := B4.out.frozen 2
  have y3 := B4.out.frozen 3
  have y4 := B4.out.frozen 4
  have y5 := B4.out.frozen 5
  have y6 := B4.out.frozen 6
  have y7 := B4.out.frozen 7
  have y8 := B4.out.frozen 8
  have y9 := B4.out.frozen 9
  have y10 := B4.out.frozen 10
  have y11 := B4.out.frozen 11
  have y12 := B4.out.frozen 12
  have y13 := B4.out.frozen 13
  have y14 := B4.out.frozen 14
  have m1 := B4.out.cell 1
  have m2 := B4.out.cell 2
  have m3 := B4.out.cell 3
  have m4 := B4.out.cell 4
  have m5 := B4.out.cell 5
  have m6 := B4.out.cell 6
  have m7 := B4.out.cell 7
  have m8 := B4.out.cell 8
  have m9 := B4.out.cell 9
  have m10 := B4.out.cell 10
  have m11 := B4.out.cell 11
  have m12 := B4.out.cell 12
  have m13 := B4.out.cell 13
  have m14 := B4.out.cell 14
  simp at m1 m2 m3 m4 m5 m6 m7 m8 m9 m10 m11 m12 m13 m14
  by_cases e3 : kd = 3
  · subst e3
    obtain rfl : cs = ⟨3, ⟨x.id, 0, 0, [], [], fun _ => 0⟩, false⟩ := by
      rw [HCS.out]
      unfold cleanS
      simp
    clear HCS
    go_upto_region 15 with fail
    have d4 := B4.out.set_ 1 (.int .i64 x.id)
    simp only [List.setIfInBounds_toArray, List.set_cons_succ, List.set_cons_zero] at d4
    have D4 := Lib.hid d4
    clear d4
    have D2 := Lib.hid (B2.out.far (p := ⟨g + 1 + 1 + 1, 1, none⟩) (by simp) (.int .i64 x.id))
    have FZ := Lib.hid (FA.out.setCell (p := ⟨g + 1 + 1 + 1, 1, none⟩) (.inl (by have := HG.out; simp; omega)) (.int .i64 x.id))
    generalize wa.setCell ⟨g + 1 + 1 + 1, 1, none⟩ (.int .i64 x.id) = wz at *
    have NIN := Lib.hid (nd_bare wz wz.heap.size (⟨x.id, 0, 0, [], [], fun _ => 0⟩ : Nd) rfl rfl)
    have FF := Lib.hid (fresh_nil (g + 4))
    have FP := Lib.hid (fresh_nil (g + 4))
    clear y1 m1 y2 m2 y3 m3 y4 m4 y5 m5 y6 m6 y7 m7 y8 m8 y9 m9 y10 m10 y11 m11 y12 m12 y13 m13 y14 m14 n0 n1 n2 n3 n4 n5 n6 n7 n8 n9 n10 n11 n12 k0 k14
    have q0 := D4.out.cell 0
    have q1 := D4.out.cell 1
    have q2 := D4.out.cell 2
    have q3 := D4.out.cell 3
    have q4 := D4.out.cell 4
    have q5 := D4.out.cell 5
    have q6 := D4.out.cell 6
    have q7 := D4.out.cell 7
    have q8 := D4.out.cell 8
    have q9 := D4.out.cell 9
    have q10 := D4.out.cell 10
    have q11 := D4.out.cell 11
    have q12 := D4.out.cell 12
    have q13 := D4.out.cell 13
    have q14 := D4.out.cell 14
    simp at q0 q1 q2 q3 q4 q5 q6 q7 q8 q9 q10 q11 q12 q13 q14
    have z0 := D2.out.frozen 0
    have z1 := D2.out.frozen 1
    have z2 := D2.out.frozen 2
    have z3 := D2.out.frozen 3
    have z4 := D2.out.frozen 4
    have z5 := D2.out.frozen 5
    have z6 := D2.out.frozen 6
    have z7 := D2.out.frozen 7
    have z8 := D2.out.frozen 8
    have z9 := D2.out.frozen 9
    have z10 := D2.out.frozen 10
    have z11 := D2.out.frozen 11
    have z12 := D2.out.frozen 12
    have z13 := D2.out.frozen 13
    have z14 := D2.out.frozen 14
    have s0 := D2.out.cell 0
    have s1 := D2.out.cell 1
    have s2 := D2.out.cell 2
    have s3 := D2.out.cell 3
    have s4 := D2.out.cell 4
    have s5 := D2.out.cell 5
    have s6 := D2.out.cell 6
    have s7 := D2.out.cell 7
    have s8 := D2.out.cell 8
    have s9 := D2.out.cell 9
    have s10 := D2.out.cell 10
    have s11 := D2.out.cell 11
    have s12 := D2.out.cell 12
    have s13 := D2.out.cell 13
    have s14 := D2.out.cell 14
    simp at s0 s1 s2 s3 s4 s5 s6 s7 s8 s9 s10 s11 s12 s13 s14
    go_wp2_with fail
    have be := blk_setL ([.int .i64 3, .int .i64 x.id, .int .i64 0, (.slice none 0 0), (.slice none 0 0), .int .i64 0, .int .i64 (0 : Int), .int .i64 (0 : Int), .int .i64 (0 : Int), .int .i64 (0 : Int), .int .i64 (0 : Int), .int .i64 (0 : Int), .int .i64 (0 : Int), .int .i64 (0 : Int), .bool false]) 0 D2.out
    simp only [putL, List.setIfInBounds_toArray, List.set_cons_succ, List.set_cons_zero, Nat.reduceAdd] at be
    have BE := Lib.hid be
    clear be
    have fe := fr_setL (g := g + 1) (.inr (by simp)) ([.int .i64 3, .int .i64 x.id, .int .i64 0, (.slice none 0 0), (.slice none 0 0), .int .i64 0, .int .i64 (0 : Int), .int .i64 (0 : Int), .int .i64 (0 : Int), .int .i64 (0 : Int), .int .i64 (0 : Int), .int .i64 (0 : Int), .int .i64 (0 : Int), .int .i64 (0 : Int), .bool false]) 0 (Fr.refl wz.heap.size [g + 1] wz)
    have FE := Lib.hid (FZ.out.trans (fe.mono (B' := w.heap.size) (L' := []) FZ.out.size (by intro k hk hlt; have := HG.out; simp at hk; omega)))
    have NE := Lib.hid ((ndin_fresh NIN.out FF.out FP.out fe (Nat.le_refl _) (by intro k hk; simp at hk; omega)).more fe.size)
    refine bodyPost_ret (results_cell_row rfl _ _ (g + 1) 37 (stV (⟨3, ⟨x.id, 0, 0, [], [], fun _ => 0⟩, false⟩ : Stp) (.slice none 0 0) (.slice none 0 0)) (0, 0) _ rfl BE.out Try.underlying37 rfl (by kernel_rfl)) rfl (HOUT.out (.slice none 0 0) (.slice none 0 0) _ NE.out (fresh_le FF.out (by have := HG.out; omega)) (fresh_le FP.out (by have := HG.out; omega)) FE.out)
  · exact absurd HKD.out e3
set_option maxRecDepth 100000 in
set_option maxHeartbeats 16000000 in
theorem clean_4 (kd : Int) (x : Nd) (rs : Bool) (sf sp : Value) (B : Nat) (w : World) (hkd : kd = 4) (h : NdIn w B (x, sf, sp)) (hB : B ≤ w.heap.size) (h1 : x.fr.length ≤ 1000000) (h2 : x.pg.length ≤ 1000000) :
    Calls Try.prog 9 #[.agg (stA kd x rs sf sp)] w (CleanOut ⟨kd, x, rs⟩ w) := by
  have HKD := Lib.hid hkd
  clear hkd
  obtain ⟨⟨Af, cf, hf1, hf2⟩, ⟨Ap, cp, hp1, hp2⟩⟩ := h
  simp only at hf1 hf2 hp1 hp2
  subst hf1
  subst hp1
  obtain ⟨nf, hnf⟩ : ∃ z, z = x.fr.length := ⟨_, rfl⟩
  obtain ⟨np, hnp⟩ : ∃ z, z = x.pg.length := ⟨_, rfl⟩
  have RP := Lib.hid hp2
  have RF := Lib.hid hf2
  rw [← hnf] at RF h1 ⊢
  rw [← hnp] at RP h2 ⊢
  have HNF := Lib.hid hnf
  have HNP := Lib.hid hnp
  obtain ⟨cs, hcs⟩ : ∃ c, c = cleanS ⟨kd, x, rs⟩ := ⟨_, rfl⟩
  obtain ⟨Q, hQ⟩ : ∃ Q, Q = CleanOut ⟨kd, x, rs⟩ w := ⟨_, rfl⟩
  rw [← hQ]
  have HOUT := Lib.hid (fun (tf tp : Value) (w' : World) (ha : NdIn w' w'.heap.size (cs.nd, tf, tp)) (hb : Fresh w.heap.size tf) (hc : Fresh w.heap.size tp) (hd : Fr w.heap.size [] w w') => (by
    rw [hQ]
    unfold CleanOut
    rw [← hcs]
    exact ⟨tf, tp, rfl, ha, hb, hc, hd⟩ : Q (.returned (.agg (stV cs tf tp))) w'))
  have HCS := Lib.hid hcs
  have b1 := (((Blk.new w 37 (stA kd x rs (.slice Af nf cf) (.slice Ap np cp))).alloc (.cells #[.int .i64 0, .int .i64 0, .int .i64 0, .slice none 0 0, .slice none 0 0, .int .i64 0, .int .i64 0, .int .i64 0, .int .i64 0, .int .i64 0, .int .i64 0, .int .i64 0, .int .i64 0, .int .i64 0, .bool false] 37)).alloc (.cells #[.int .i64 x.id, .int .i64 x.kind, .slice Af nf cf, .slice Ap np cp, .int .i64 x.par, .int .i64 (x.rt 0), .int .i64 (x.rt 1), .int .i64 (x.rt 2), .int .i64 (x.rt 3), .int .i64 (x.rt 4), .int .i64 (x.rt 5), .int .i64 (x.rt 6), .int .i64 (x.rt 7)] 35)).alloc (.cells #[.int .i64 kd, .int .i64 0, .int .i64 0, .slice none 0 0, .slice none 0 0, .int .i64 0, .int .i64 0, .int .i64 0, .int .i64 0, .int .i64 0, .int .i64 0, .int .i64 0, .int .i64 0, .int .i64 0, .bool false] 37)
  have b2 := ((Blk.new (w.alloc (.cells (stA kd x rs (.slice Af nf cf) (.slice Ap np cp)) 37)) 37 #[.int .i64 0, .int .i64 0, .int .i64 0, .slice none 0 0, .slice none 0 0, .int .i64 0, .int .i64 0, .int .i64 0, .int .i64 0, .int .i64 0, .int .i64 0, .int .i64 0, .int .i64 0, .int .i64 0, .bool false]).alloc (.cells #[.int .i64 x.id, .int .i64 x.kind, .slice Af nf cf, .slice Ap np cp, .int .i64 x.par, .int .i64 (x.rt 0), .int .i64 (x.rt 1), .int .i64 (x.rt 2), .int .i64 (x.rt 3), .int .i64 (x.rt 4), .int .i64 (x.rt 5), .int .i64 (x.rt 6), .int .i64 (x.rt 7)] 35)).alloc (.cells #[.int .i64 kd, .int .i64 0, .int .i64 0, .slice none 0 0, .slice none 0 0, .int .i64 0, .int .i64 0, .int .i64 0, .int .i64 0, .int .i64 0, .int .i64 0, .int .i64 0, .int .i64 0, .int .i64 0, .bool false] 37)
  have b3 := (Blk.new ((w.alloc (.cells (stA kd x rs (.slice Af nf cf) (.slice Ap np cp)) 37)).alloc (.cells #[.int .i64 0, .int .i64 0, .int .i64 0, .slice none 0 0, .slice none 0 0, .int .i64 0, .int .i64 0, .int .i64 0, .int .i64 0, .int .i64 0, .int .i64 0, .int .i64 0, .int .i64 0, .int .i64 0, .bool false] 37)) 35 #[.int .i64 x.id, .int .i64 x.kind, .slice Af nf cf, .slice Ap np cp, .int .i64 x.par, .int .i64 (x.rt 0), .int .i64 (x.rt 1), .int .i64 (x.rt 2), .int .i64 (x.rt 3), .int .i64 (x.rt 4), .int .i64 (x.rt 5), .int .i64 (x.rt 6), .int .i64 (x.rt 7)]).alloc (.cells #[.int .i64 kd, .int .i64 0, .int .i64 0, .slice none 0 0, .slice none 0 0, .int .i64 0, .int .i64 0, .int .i64 0, .int .i64 0, .int .i64 0, .int .i64 0, .int .i64 0, .int .i64 0, .int .i64 0, .bool false] 37)
  have b4 := Blk.new (((w.alloc (.cells (stA kd x rs (.slice Af nf cf) (.slice Ap np cp)) 37)).alloc (.cells #[.int .i64 0, .int .i64 0, .int .i64 0, .slice none 0 0, .slice none 0 0, .int .i64 0, .int .i64 0, .int .i64 0, .int .i64 0, .int .i64 0, .int .i64 0, .int .i64 0, .int .i64 0, .int .i64 0, .bool false] 37)).alloc (.cells #[.int .i64 x.id, .int .i64 x.kind, .slice Af nf cf, .slice Ap np cp, .int .i64 x.par, .int .i64 (x.rt 0), .int .i64 (x.rt 1), .int .i64 (x.rt 2), .int .i64 (x.rt 3), .int .i64 (x.rt 4), .int .i64 (x.rt 5), .int .i64 (x.rt 6), .int .i64 (x.rt 7)] 35)) 37 #[.int .i64 kd, .int .i64 0, .int .i64 0, .slice none 0 0, .slice none 0 0, .int .i64 0, .int .i64 0, .int .i64 0, .int .i64 0, .int .i64 0, .int .i64 0, .int .i64 0, .int .i64 0, .int .i64 0, .bool false]
  simp only [World.size_alloc] at b2 b3 b4
  have fA := (((((Fr.refl w.heap.size [] w).alloc (Nat.le_refl _) (.cells (stA kd x rs (.slice Af nf cf) (.slice Ap np cp)) 37)).alloc (by simp) (.cells #[.int .i64 0, .int .i64 0, .int .i64 0, .slice none 0 0, .slice none 0 0, .int .i64 0, .int .i64 0, .int .i64 0, .int .i64 0, .int .i64 0, .int .i64 0, .int .i64 0, .int .i64 0, .int .i64 0, .bool false] 37)).alloc (by simp; omega) (.cells #[.int .i64 x.id, .int .i64 x.kind, .slice Af nf cf, .slice Ap np cp, .int .i64 x.par, .int .i64 (x.rt 0), .int .i64 (x.rt 1), .int .i64 (x.rt 2), .int .i64 (x.rt 3), .int .i64 (x.rt 4), .int .i64 (x.rt 5), .int .i64 (x.rt 6), .int .i64 (x.rt 7)] 35)).alloc (by simp; omega) (.cells #[.int .i64 kd, .int .i64 0, .int .i64 0, .slice none 0 0, .slice none 0 0, .int .i64 0, .int .i64 0, .int .i64 0, .int .i64 0, .int .i64 0, .int .i64 0, .int .i64 0, .int .i64 0, .int .i64 0, .bool false] 37))
  have hsa : ((((w.alloc (.cells (stA kd x rs (.slice Af nf cf) (.slice Ap np cp)) 37)).alloc (.cells #[.int .i64 0, .int .i64 0, .int .i64 0, .slice none 0 0, .slice none 0 0, .int .i64 0, .int .i64 0, .int .i64 0, .int .i64 0, .int .i64 0, .int .i64 0, .int .i64 0, .int .i64 0, .int .i64 0, .bool false] 37)).alloc (.cells #[.int .i64 x.id, .int .i64 x.kind, .slice Af nf cf, .slice Ap np cp, .int .i64 x.par, .int .i64 (x.rt 0), .int .i64 (x.rt 1), .int .i64 (x.rt 2), .int .i64 (x.rt 3), .int .i64 (x.rt 4), .int .i64 (x.rt 5), .int .i64 (x.rt 6), .int .i64 (x.rt 7)] 35)).alloc (.cells #[.int .i64 kd, .int .i64 0, .int .i64 0, .slice none 0 0, .slice none 0 0, .int .i64 0, .int .i64 0, .int .i64 0, .int .i64 0, .int .i64 0, .int .i64 0, .int .i64 0, .int .i64 0, .int .i64 0, .bool false] 37)).heap.size = w.heap.size + 1 + 1 + 1 + 1 := by simp only [World.size_alloc]
  have B1 := Lib.hid b1
  have B2 := Lib.hid b2
  have B3 := Lib.hid b3
  have B4 := Lib.hid b4
  have FA := Lib.hid fA
  have HSA := Lib.hid hsa
  clear hf2 hp2 hnf hnp hcs hQ b1 b2 b3 b4 fA hsa
  go_enter Try.func9, Try.ntmps9
  go_upto_region 3 with fail
  generalize (((w.alloc (.cells (stA kd x rs (.slice Af nf cf) (.slice Ap np cp)) 37)).alloc (.cells #[.int .i64 0, .int .i64 0, .int .i64 0, .slice none 0 0, .slice none 0 0, .int .i64 0, .int .i64 0, .int .i64 0, .int .i64 0, .int .i64 0, .int .i64 0, .int .i64 0, .int .i64 0, .int .i64 0, .bool false] 37)).alloc (.cells #[.int .i64 x.id, .int .i64 x.kind, .slice Af nf cf, .slice Ap np cp, .int .i64 x.par, .int .i64 (x.rt 0), .int .i64 (x.rt 1), .int .i64 (x.rt 2), .int .i64 (x.rt 3), .int .i64 (x.rt 4), .int .i64 (x.rt 5), .int .i64 (x.rt 6), .int .i64 (x.rt 7)] 35)).alloc (.cells #[.int .i64 kd, .int .i64 0, .int .i64 0, .slice none 0 0, .slice none 0 0, .int .i64 0, .int .i64 0, .int .i64 0, .int .i64 0, .int .i64 0, .int .i64 0, .int .i64 0, .int .i64 0, .int .i64 0, .bool false] 37) = wa at *
  obtain ⟨g, hg⟩ : ∃ g, g = w.heap.size := ⟨_, rfl⟩
  rw [← hg] at B1 B2 B3 B4 HSA
  try rw [← hg]
  have HG := Lib.hid hg
  clear hg
  have k0 := B1.out.cell 0
  have k14 := B1.out.cell 14
  have n0 := B3.out.cell 0
  have n1 := B3.out.cell 1
  have n2 := B3.out.cell 2
  have n3 := B3.out.cell 3
  have n4 := B3.out.cell 4
  have n5 := B3.out.cell 5
  have n6 := B3.out.cell 6
  have n7 := B3.out.cell 7
  have n8 := B3.out.cell 8
  have n9 := B3.out.cell 9
  have n10 := B3.out.cell 10
  have n11 := B3.out.cell 11
  have n12 := B3.out.cell 12
  simp at k0 k14 n0 n1 n2 n3 n4 n5 n6 n7 n8 n9 n10 n11 n12
  have y1 := B4.out.frozen 1
  have y2 := B4.out.frozen 2
  have y3 := B4.out.frozen 3
  have y4 := B4.out.frozen 4
  have y5 := B4.out.frozen 5
  have y6 := B4.out.frozen 6
  have y7 := B4.out.frozen 7
  have y8 := B4.out.frozen 8
  have y9 := B4.out.frozen 9
  have y10 := B4.out.frozen 10
  have y11 := B4.out.frozen 11
  have y12 := B4.out.frozen 12
  have y13 := B4.out.frozen 13
  have y14 := B4.out.frozen 14
  have m1 := B4.out.cell 1
  have m2 := B4.out.cell 2
  have m3 := B4.out.cell 3
  have m4 := B4.out.cell 4
  have m5 := B4.out.cell 5
  have m6 := B4.out.cell 6
  have m7 := B4.out.cell 7
  have m8 := B4.out.cell 8
  have m9 := B4.out.cell 9
  have m10 := B4.out.cell 10
  have m11 := B4.out.cell 11
  have m12 := B4.out.cell 12
  have m13 := B4.out.cell 13
  have m14 := B4.out.cell 14
  simp at m1 m2 m3 m4 m5 m6 m7 m8 m9 m10 m11 m12 m13 m14
  by_cases e4 : kd = 4
  · subst e4
    obtain rfl : cs = ⟨4, ⟨x.id, 0, x.par, [], [], x.rt⟩, false⟩ := by
      rw [HCS.out]
      unfold cleanS
      simp
    clear HCS
    go_upto_region 15 with fail
    generalize hwz : World.setCell _ _ _ = wz
    have d4 := blk_setL ([.int .i64 x.id, .int .i64 0, (.slice none 0 0), (.slice none 0 0), .int .i64 x.par, .int .i64 (x.rt 0), .int .i64 (x.rt 1), .int .i64 (x.rt 2), .int .i64 (x.rt 3), .int .i64 (x.rt 4), .int .i64 (x.rt 5), .int .i64 (x.rt 6), .int .i64 (x.rt 7)]) 1 B4.out
    simp only [putL, List.setIfInBounds_toArray, List.set_cons_succ, List.set_cons_zero, Nat.reduceAdd] at d4
    have d2 := far_setL (g := g + 1 + 1 + 1) (by omega) ([.int .i64 x.id, .int .i64 0, (.slice none 0 0), (.slice none 0 0), .int .i64 x.par, .int .i64 (x.rt 0), .int .i64 (x.rt 1), .int .i64 (x.rt 2), .int .i64 (x.rt 3), .int .i64 (x.rt 4), .int .i64 (x.rt 5), .int .i64 (x.rt 6), .int .i64 (x.rt 7)]) 1 B2.out
    have fz := fr_setL (g := g + 1 + 1 + 1) (.inl (by have := HG.out; omega)) ([.int .i64 x.id, .int .i64 0, (.slice none 0 0), (.slice none 0 0), .int .i64 x.par, .int .i64 (x.rt 0), .int .i64 (x.rt 1), .int .i64 (x.rt 2), .int .i64 (x.rt 3), .int .i64 (x.rt 4), .int .i64 (x.rt 5), .int .i64 (x.rt 6), .int .i64 (x.rt 7)]) 1 FA.out
    have fs := fr_setL (g := g + 1 + 1 + 1) (.inr (by simp)) ([.int .i64 x.id, .int .i64 0, (.slice none 0 0), (.slice none 0 0), .int .i64 x.par, .int .i64 (x.rt 0), .int .i64 (x.rt 1), .int .i64 (x.rt 2), .int .i64 (x.rt 3), .int .i64 (x.rt 4), .int .i64 (x.rt 5), .int .i64 (x.rt 6), .int .i64 (x.rt 7)]) 1 (Fr.refl wa.heap.size [g + 1 + 1 + 1] wa)
    have D4 := Lib.hid (by rw [← hwz]; exact d4 : Blk wz (g + 1 + 1 + 1) 37 _)
    have D2 := Lib.hid (by rw [← hwz]; exact d2 : Blk wz (g + 1) 37 _)
    have FZ := Lib.hid (by rw [← hwz]; exact fz : Fr w.heap.size [] w wz)
    have FS := Lib.hid (by rw [← hwz]; exact fs : Fr wa.heap.size [g + 1 + 1 + 1] wa wz)
    clear hwz d4 d2 fz fs
    have NIN := Lib.hid (nd_bare wz wz.heap.size (⟨x.id, 0, x.par, [], [], x.rt⟩ : Nd) rfl rfl)
    have FF := Lib.hid (fresh_nil (g + 4))
    have FP := Lib.hid (fresh_nil (g + 4))
    clear y1 m1 y2 m2 y3 m3 y4 m4 y5 m5 y6 m6 y7 m7 y8 m8 y9 m9 y10 m10 y11 m11 y12 m12 y13 m13 y14 m14 n0 n1 n2 n3 n4 n5 n6 n7 n8 n9 n10 n11 n12 k0 k14 FS
    have q0 := D4.out.cell 0
    have q1 := D4.out.cell 1
    have q2 := D4.out.cell 2
    have q3 := D4.out.cell 3
    have q4 := D4.out.cell 4
    have q5 := D4.out.cell 5
    have q6 := D4.out.cell 6
    have q7 := D4.out.cell 7
    have q8 := D4.out.cell 8
    have q9 := D4.out.cell 9
    have q10 := D4.out.cell 10
    have q11 := D4.out.cell 11
    have q12 := D4.out.cell 12
    have q13 := D4.out.cell 13
    have q14 := D4.out.cell 14
    simp at q0 q1 q2 q3 q4 q5 q6 q7 q8 q9 q10 q11 q12 q13 q14
    have z0 := D2.out.frozen 0
    have z1 := D2.out.frozen 1
    have z2 := D2.out.frozen 2
    have z3 := D2.out.frozen 3
    have z4 := D2.out.frozen 4
    have z5 := D2.out.frozen 5
    have z6 := D2.out.frozen 6
    have z7 := D2.out.frozen 7
    have z8 := D2.out.frozen 8
    have z9 := D2.out.frozen 9
    have z10 := D2.out.frozen 10
    have z11 := D2.out.frozen 11
    have z12 := D2.out.frozen 12
    have z13 := D2.out.frozen 13
    have z14 := D2.out.frozen 14
    have s0 := D2.out.cell 0
    have s1 := D2.out.cell 1
    have s2 := D2.out.cell 2
    have s3 := D2.out.cell 3
    have s4 := D2.out.cell 4
    have s5 := D2.out.cell 5
    have s6 := D2.out.cell 6
    have s7 := D2.out.cell 7
    have s8 := D2.out.cell 8
    have s9 := D2.out.cell 9
    have s10 := D2.out.cell 10
    have s11 := D2.out.cell 11
    have s12 := D2.out.cell 12
    have s13 := D2.out.cell 13
    have s14 := D2.out.cell 14
    simp at s0 s1 s2 s3 s4 s5 s6 s7 s8 s9 s10 s11 s12 s13 s14
    go_wp2_with fail
    have be := blk_setL ([.int .i64 4, .int .i64 x.id, .int .i64 0, (.slice none 0 0), (.slice none 0 0), .int .i64 x.par, .int .i64 (x.rt 0), .int .i64 (x.rt 1), .int .i64 (x.rt 2), .int .i64 (x.rt 3), .int .i64 (x.rt 4), .int .i64 (x.rt 5), .int .i64 (x.rt 6), .int .i64 (x.rt 7), .bool false]) 0 D2.out
    simp only [putL, List.setIfInBounds_toArray, List.set_cons_succ, List.set_cons_zero, Nat.reduceAdd] at be
    have BE := Lib.hid be
    clear be
    have fe := fr_setL (g := g + 1) (.inr (by simp)) ([.int .i64 4, .int .i64 x.id, .int .i64 0, (.slice none 0 0), (.slice none 0 0), .int .i64 x.par, .int .i64 (x.rt 0), .int .i64 (x.rt 1), .int .i64 (x.rt 2), .int .i64 (x.rt 3), .int .i64 (x.rt 4), .int .i64 (x.rt 5), .int .i64 (x.rt 6), .int .i64 (x.rt 7), .bool false]) 0 (Fr.refl wz.heap.size [g + 1] wz)
    have FE := Lib.hid (FZ.out.trans (fe.mono (B' := w.heap.size) (L' := []) FZ.out.size (by intro k hk hlt; have := HG.out; simp at hk; omega)))
    have NE := Lib.hid ((ndin_fresh NIN.out FF.out FP.out fe (Nat.le_refl _) (by intro k hk; simp at hk; omega)).more fe.size)
    refine bodyPost_ret (results_cell_row rfl _ _ (g + 1) 37 (stV (⟨4, ⟨x.id, 0, x.par, [], [], x.rt⟩, false⟩ : Stp) (.slice none 0 0) (.slice none 0 0)) (0, 0) _ rfl BE.out Try.underlying37 rfl (by kernel_rfl)) rfl (HOUT.out (.slice none 0 0) (.slice none 0 0) _ NE.out (fresh_le FF.out (by have := HG.out; omega)) (fresh_le FP.out (by have := HG.out; omega)) FE.out)
  · exact absurd HKD.out e4
set_option maxRecDepth 100000 in
set_option maxHeartbeats 16000000 in
theorem clean_0 (kd : Int) (x : Nd) (rs : Bool) (sf sp : Value) (B : Nat) (w : World) (e1 : kd ≠ 1) (e2 : kd ≠ 2) (e3 : kd ≠ 3) (e4 : kd ≠ 4) (e5 : kd ≠ 5) (h : NdIn w B (x, sf, sp)) (hB : B ≤ w.heap.size) (h1 : x.fr.length ≤ 1000000) (h2 : x.pg.length ≤ 1000000) :
    Calls Try.prog 9 #[.agg (stA kd x rs sf sp)] w (CleanOut ⟨kd, x, rs⟩ w) := by
  obtain ⟨⟨Af, cf, hf1, hf2⟩, ⟨Ap, cp, hp1, hp2⟩⟩ := h
  simp only at hf1 hf2 hp1 hp2
  subst hf1
  subst hp1
  obtain ⟨nf, hnf⟩ : ∃ z, z = x.fr.length := ⟨_, rfl⟩
  obtain ⟨np, hnp⟩ : ∃ z, z = x.pg.length := ⟨_, rfl⟩
  have RP := Lib.hid hp2
  have RF := Lib.hid hf2
  rw [← hnf] at RF h1 ⊢
  rw [← hnp] at RP h2 ⊢
  have HNF := Lib.hid hnf
  have HNP := Lib.hid hnp
  obtain ⟨cs, hcs⟩ : ∃ c, c = cleanS ⟨kd, x, rs⟩ := ⟨_, rfl⟩
  obtain ⟨Q, hQ⟩ : ∃ Q, Q = CleanOut ⟨kd, x, rs⟩ w := ⟨_, rfl⟩
  rw [← hQ]
  have HOUT := Lib.hid (fun (tf tp : Value) (w' : World) (ha : NdIn w' w'.heap.size (cs.nd, tf, tp)) (hb : Fresh w.heap.size tf) (hc : Fresh w.heap.size tp) (hd : Fr w.heap.size [] w w') => (by
    rw [hQ]
    unfold CleanOut
    rw [← hcs]
    exact ⟨tf, tp, rfl, ha, hb, hc, hd⟩ : Q (.returned (.agg (stV cs tf tp))) w'))
  have HCS := Lib.hid hcs
  have b1 := (((Blk.new w 37 (stA kd x rs (.slice Af nf cf) (.slice Ap np cp))).alloc (.cells #[.int .i64 0, .int .i64 0, .int .i64 0, .slice none 0 0, .slice none 0 0, .int .i64 0, .int .i64 0, .int .i64 0, .int .i64 0, .int .i64 0, .int .i64 0, .int .i64 0, .int .i64 0, .int .i64 0, .bool false] 37)).alloc (.cells #[.int .i64 x.id, .int .i64 x.kind, .slice Af nf cf, .slice Ap np cp, .int .i64 x.par, .int .i64 (x.rt 0), .int .i64 (x.rt 1), .int .i64 (x.rt 2), .int .i64 (x.rt 3), .int .i64 (x.rt 4), .int .i64 (x.rt 5), .int .i64 (x.rt 6), .int .i64 (x.rt 7)] 35)).alloc (.cells #[.int .i64 kd, .int .i64 0, .int .i64 0, .slice none 0 0, .slice none 0 0, .int .i64 0, .int .i64 0, .int .i64 0, .int .i64 0, .int .i64 0, .int .i64 0, .int .i64 0, .int .i64 0, .int .i64 0, .bool false] 37)
  have b2 := ((Blk.new (w.alloc (.cells (stA kd x rs (.slice Af nf cf) (.slice Ap np cp)) 37)) 37 #[.int .i64 0, .int .i64 0, .int .i64 0, .slice none 0 0, .slice none 0 0, .int .i64 0, .int .i64 0, .int .i64 0, .int .i64 0, .int .i64 0, .int .i64 0, .int .i64 0, .int .i64 0, .int .i64 0, .bool false]).alloc (.cells #[.int .i64 x.id, .int .i64 x.kind, .slice Af nf cf, .slice Ap np cp, .int .i64 x.par, .int .i64 (x.rt 0), .int .i64 (x.rt 1), .int .i64 (x.rt 2), .int .i64 (x.rt 3), .int .i64 (x.rt 4), .int .i64 (x.rt 5), .int .i64 (x.rt 6), .int .i64 (x.rt 7)] 35)).alloc (.cells #[.int .i64 kd, .int .i64 0, .int .i64 0, .slice none 0 0, .slice none 0 0, .int .i64 0, .int .i64 0, .int .i64 0, .int .i64 0, .int .i64 0, .int .i64 0, .int .i64 0, .int .i64 0, .int .i64 0, .bool false] 37)
  have b3 := (Blk.new ((w.alloc (.cells (stA kd x rs (.slice Af nf cf) (.slice Ap np cp)) 37)).alloc (.cells #[.int .i64 0, .int .i64 0, .int .i64 0, .slice none 0 0, .slice none 0 0, .int .i64 0, .int .i64 0, .int .i64 0, .int .i64 0, .int .i64 0, .int .i64 0, .int .i64 0, .int .i64 0, .int .i64 0, .bool false] 37)) 35 #[.int .i64 x.id, .int .i64 x.kind, .slice Af nf cf, .slice Ap np cp, .int .i64 x.par, .int .i64 (x.rt 0), .int .i64 (x.rt 1), .int .i64 (x.rt 2), .int .i64 (x.rt 3), .int .i64 (x.rt 4), .int .i64 (x.rt 5), .int .i64 (x.rt 6), .int .i64 (x.rt 7)]).alloc (.cells #[.int .i64 kd, .int .i64 0, .int .i64 0, .slice none 0 0, .slice none 0 0, .int .i64 0, .int .i64 0, .int .i64 0, .int .i64 0, .int .i64 0, .int .i64 0, .int .i64 0, .int .i64 0, .int .i64 0, .bool false] 37)
  have b4 := Blk.new (((w.alloc (.cells (stA kd x rs (.slice Af nf cf) (.slice Ap np cp)) 37)).alloc (.cells #[.int .i64 0, .int .i64 0, .int .i64 0, .slice none 0 0, .slice none 0 0, .int .i64 0, .int .i64 0, .int .i64 0, .int .i64 0, .int .i64 0, .int .i64 0, .int .i64 0, .int .i64 0, .int .i64 0, .bool false] 37)).alloc (.cells #[.int .i64 x.id, .int .i64 x.kind, .slice Af nf cf, .slice Ap np cp, .int .i64 x.par, .int .i64 (x.rt 0), .int .i64 (x.rt 1), .int .i64 (x.rt 2), .int .i64 (x.rt 3), .int .i64 (x.rt 4), .int .i64 (x.rt 5), .int .i64 (x.rt 6), .int .i64 (x.rt 7)] 35)) 37 #[.int .i64 kd, .int .i64 0, .int .i64 0, .slice none 0 0, .slice none 0 0, .int .i64 0, .int .i64 0, .int .i64 0, .int .i64 0, .int .i64 0, .int .i64 0, .int .i64 0, .int .i64 0, .int .i64 0, .bool false]
  simp only [World.size_alloc] at b2 b3 b4
  have fA := (((((Fr.refl w.heap.size [] w).alloc (Nat.le_refl _) (.cells (stA kd x rs (.slice Af nf cf) (.slice Ap np cp)) 37)).alloc (by simp) (.cells #[.int .i64 0, .int .i64 0, .int .i64 0, .slice none 0 0, .slice none 0 0, .int .i64 0, .int .i64 0, .int .i64 0, .int .i64 0, .int .i64 0, .int .i64 0, .int .i64 0, .int .i64 0, .int .i64 0, .bool false] 37)).alloc (by simp; omega) (.cells #[.int .i64 x.id, .int .i64 x.kind, .slice Af nf cf, .slice Ap np cp, .int .i64 x.par, .int .i64 (x.rt 0), .int .i64 (x.rt 1), .int .i64 (x.rt 2), .int .i64 (x.rt 3), .int .i64 (x.rt 4), .int .i64 (x.rt 5), .int .i64 (x.rt 6), .int .i64 (x.rt 7)] 35)).alloc (by simp; omega) (.cells #[.int .i64 kd, .int .i64 0, .int .i64 0, .slice none 0 0, .slice none 0 0, .int .i64 0, .int .i64 0, .int .i64 0, .int .i64 0, .int .i64 0, .int .i64 0, .int .i64 0, .int .i64 0, .int .i64 0, .bool false] 37))
  have hsa : ((((w.alloc (.cells (stA kd x rs (.slice Af nf cf) (.slice Ap np cp)) 37)).alloc (.cells #[.int .i64 0, .int .i64 0, .int .i64 0, .slice none 0 0, .slice none 0 0, .int .i64 0, .int .i64 0, .int .i64 0, .int .i64 0, .int .i64 0, .int .i64 0, .int .i64 0, .int .i64 0, .int .i64 0, .bool false] 37)).alloc (.cells #[.int .i64 x.id, .int .i64 x.kind, .slice Af nf cf, .slice Ap np cp, .int .i64 x.par, .int .i64 (x.rt 0), .int .i64 (x.rt 1), .int .i64 (x.rt 2), .int .i64 (x.rt 3), .int .i64 (x.rt 4), .int .i64 (x.rt 5), .int .i64 (x.rt 6), .int .i64 (x.rt 7)] 35)).alloc (.cells #[.int .i64 kd, .int .i64 0, .int .i64 0, .slice none 0 0, .slice none 0 0, .int .i64 0, .int .i64 0, .int .i64 0, .int .i64 0, .int .i64 0, .int .i64 0, .int .i64 0, .int .i64 0, .int .i64 0, .bool false] 37)).heap.size = w.heap.size + 1 + 1 + 1 + 1 := by simp only [World.size_alloc]
  have B1 := Lib.hid b1
  have B2 := Lib.hid b2
  have B3 := Lib.hid b3
  have B4 := Lib.hid b4
  have FA := Lib.hid fA
  have HSA := Lib.hid hsa
  clear hf2 hp2 hnf hnp hcs hQ b1 b2 b3 b4 fA hsa
  go_enter Try.func9, Try.ntmps9
  go_upto_region 3 with fail
  generalize (((w.alloc (.cells (stA kd x rs (.slice Af nf cf) (.slice Ap np cp)) 37)).alloc (.cells #[.int .i64 0, .int .i64 0, .int .i64 0, .slice none 0 0, .slice none 0 0, .int .i64 0, .int .i64 0, .int .i64 0, .int .i64 0, .int .i64 0, .int .i64 0, .int .i64 0, .int .i64 0, .int .i64 0, .bool false] 37)).alloc (.cells #[.int .i64 x.id, .int .i64 x.kind, .slice Af nf cf, .slice Ap np cp, .int .i64 x.par, .int .i64 (x.rt 0), .int .i64 (x.rt 1), .int .i64 (x.rt 2), .int .i64 (x.rt 3), .int .i64 (x.rt 4), .int .i64 (x.rt 5), .int .i64 (x.rt 6), .int .i64 (x.rt 7)] 35)).alloc (.cells #[.int .i64 kd, .int .i64 0, .int .i64 0, .slice none 0 0, .slice none 0 0, .int .i64 0, .int .i64 0, .int .i64 0, .int .i64 0, .int .i64 0, .int .i64 0, .int .i64 0, .int .i64 0, .int .i64 0, .bool false] 37) = wa at *
  obtain ⟨g, hg⟩ : ∃ g, g = w.heap.size := ⟨_, rfl⟩
  rw [← hg] at B1 B2 B3 B4 HSA
  try rw [← hg]
  have HG := Lib.hid hg
  clear hg
  have k0 := B1.out.cell 0
  have k14 := B1.out.cell 14
  have n0 := B3.out.cell 0
  have n1 := B3.out.cell 1
  have n2 := B3.out.cell 2
  have n3 := B3.out.cell 3
  have n4 := B3.out.cell 4
  have n5 := B3.out.cell 5
  have n6 := B3.out.cell 6
  have n7 := B3.out.cell 7
  have n8 := B3.out.cell 8
  have n9 := B3.out.cell 9
  have n10 := B3.out.cell 10
  have n11 := B3.out.cell 11
  have n12 := B3.out.cell 12
  simp at k0 k14 n0 n1 n2 n3 n4 n5 n6 n7 n8 n9 n10 n11 n12
  have y1 := B4.out.frozen 1
  have y2 := B4.out.frozen 2
  have y3 := B4.out.frozen 3
  have y4 := B4.out.frozen 4
  have y5 := B4.out.frozen 5
  have y6 := B4.out.frozen 6
  have y7 := B4.out.frozen 7
  have y8 := B4.out.frozen 8
  have y9 := B4.out.frozen 9
  have y10 := B4.out.frozen 10
  have y11 := B4.out.frozen 11
  have y12 := B4.out.frozen 12
  have y13 := B4.out.frozen 13
  have y14 := B4.out.frozen 14
  have m1 := B4.out.cell 1
  have m2 := B4.out.cell 2
  have m3 := B4.out.cell 3
  have m4 := B4.out.cell 4
  have m5 := B4.out.cell 5
  have m6 := B4.out.cell 6
  have m7 := B4.out.cell 7
  have m8 := B4.out.cell 8
  have m9 := B4.out.cell 9
  have m10 := B4.out.cell 10
  have m11 := B4.out.cell 11
  have m12 := B4.out.cell 12
  have m13 := B4.out.cell 13
  have m14 := B4.out.cell 14
  simp at m1 m2 m3 m4 m5 m6 m7 m8 m9 m10 m11 m12 m13 m14
  have f1 := kd_ne e1
  have f2 := kd_ne e2
  have f3 := kd_ne e3
  have f4 := kd_ne e4
  have f5 := kd_ne e5
  obtain rfl : cs = ⟨0, ⟨0, 0, 0, [], [], fun _ => 0⟩, false⟩ := by
    rw [HCS.out]
    unfold cleanS
    simp [e1, e2, e3, e4, e5]
  clear HCS
  have z0 := B2.out.frozen 0
  have z1 := B2.out.frozen 1
  have z2 := B2.out.frozen 2
  have z3 := B2.out.frozen 3
  have z4 := B2.out.frozen 4
  have z5 := B2.out.frozen 5
  have z6 := B2.out.frozen 6
  have z7 := B2.out.frozen 7
  have z8 := B2.out.frozen 8
  have z9 := B2.out.frozen 9
  have z10 := B2.out.frozen 10
  have z11 := B2.out.frozen 11
  have z12 := B2.out.frozen 12
  have z13 := B2.out.frozen 13
  have z14 := B2.out.frozen 14
  have s0 := B2.out.cell 0
  have s1 := B2.out.cell 1
  have s2 := B2.out.cell 2
  have s3 := B2.out.cell 3
  have s4 := B2.out.cell 4
  have s5 := B2.out.cell 5
  have s6 := B2.out.cell 6
  have s7 := B2.out.cell 7
  have s8 := B2.out.cell 8
  have s9 := B2.out.cell 9
  have s10 := B2.out.cell 10
  have s11 := B2.out.cell 11
  have s12 := B2.out.cell 12
  have s13 := B2.out.cell 13
  have s14 := B2.out.cell 14
  simp at s0 s1 s2 s3 s4 s5 s6 s7 s8 s9 s10 s11 s12 s13 s14
  go_wp2_with fail
  have be := blk_setL ([.int .i64 0, .int .i64 0, .int .i64 0, .slice none 0 0, .slice none 0 0, .int .i64 0, .int .i64 0, .int .i64 0, .int .i64 0, .int .i64 0, .int .i64 0, .int .i64 0, .int .i64 0, .int .i64 0, .bool false]) 0 B2.out
  simp only [putL, List.setIfInBounds_toArray, List.set_cons_succ, List.set_cons_zero, Nat.reduceAdd] at be
  have fe := fr_setL (g := g + 1) (.inr (by simp)) ([.int .i64 0, .int .i64 0, .int .i64 0, .slice none 0 0, .slice none 0 0, .int .i64 0, .int .i64 0, .int .i64 0, .int .i64 0, .int .i64 0, .int .i64 0, .int .i64 0, .int .i64 0, .int .i64 0, .bool false]) 0 (Fr.refl wa.heap.size [g + 1] wa)
  have FE := Lib.hid (FA.out.trans (fe.mono (B' := w.heap.size) (L' := []) FA.out.size (by intro k hk hlt; have := HG.out; simp at hk; omega)))
  refine bodyPost_ret (results_cell_row rfl _ _ (g + 1) 37 (stV (⟨0, ⟨0, 0, 0, [], [], fun _ => 0⟩, false⟩ : Stp) (.slice none 0 0) (.slice none 0 0)) (0, 0) _ rfl be Try.underlying37 rfl (by kernel_rfl)) rfl (HOUT.out (.slice none 0 0) (.slice none 0 0) _ (nd_bare _ _ _ rfl rfl) (fresh_nil _) (fresh_nil _) FE.out)
end Go.Proofs.Ytfakgidimekikaa
namespace Go.Proofs.Ytfakgidimekikaa
open Go.RowKit Go.Fb
theorem clean_any (kd : Int) (x : Nd) (rs : Bool) (sf sp : Value) (B : Nat) (w : World) (h : NdIn w B (x, sf, sp)) (hB : B ≤ w.heap.size) (h1 : x.fr.length ≤ 1000000) (h2 : x.pg.length ≤ 1000000) :
    Calls Try.prog 9 #[.agg (stA kd x rs sf sp)] w (CleanOut ⟨kd, x, rs⟩ w) := by
  by_cases e1 : kd = 1
  · exact clean_1 kd x rs sf sp B w e1 h hB h1 h2
  by_cases e2 : kd = 2
  · exact clean_2 kd x rs sf sp B w e2 h hB h1 h2
  by_cases e3 : kd = 3
  · exact clean_3 kd x rs sf sp B w e3 h hB h1 h2
  by_cases e4 : kd = 4
  · exact clean_4 kd x rs sf sp B w e4 h hB h1 h2
  by_cases e5 : kd = 5
  · exact clean_5 kd x rs sf sp B w e5 h hB h1 h2
  exact clean_0 kd x rs sf sp B w e1 e2 e3 e4 e5 h hB h1 h2
end Go.Proofs.Ytfakgidimekikaa
