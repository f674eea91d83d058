/- Texts merged into one, for the number of files a claim may have: StpA. -/
import Derived.Test.YtfakgidimekikaaMG
import Derived.Test.YtfakgidimekikaaMStill
namespace Go.Proofs.Ytfakgidimekikaa
open Go.RowKit Go.Fb
set_option linter.unusedVariables false
set_option maxRecDepth 100000 in
set_option maxHeartbeats 16000000 in
theorem clean_1 (kd : Int) (x : Nd) (rs : Bool) (sf sp : Value) (B : Nat) (w : World) (hkd : kd = 1) (h : NdIn w B (x, sf, sp)) (hB : B ≤ w.heap.size) (h1 : x.fr.length ≤ 1000000) (h2 : x.pg.length ≤ 1000000) :
    Calls Try.prog 9 #[.agg (stA kd x rs sf sp)] w (CleanOut ⟨kd, x, rs⟩ w) := by
  have HKD := Lib.hid hkd
  clear hkd
  obtain ⟨⟨Af, cf, hf1, hf2⟩, ⟨Ap, cp, hp1, hp2⟩⟩ := h
  simp only at hf1 hf2 hp1 hp2
  subst hf1
  subst hp1
  obtain ⟨nf, hnf⟩ : ∃ z, z = x.fr.length := ⟨_, rfl⟩
  obtain ⟨np, hnp⟩ : ∃ z, z = x.pg.length := ⟨_, rfl⟩
  have RP := Lib.hid hp2
  have RF := Lib.hid hf2
  rw [← hnf] at RF h1 ⊢
  rw [← hnp] at RP h2 ⊢
  have HNF := Lib.hid hnf
  have HNP := Lib.hid hnp
  obtain ⟨cs, hcs⟩ : ∃ c, c = cleanS ⟨kd, x, rs⟩ := ⟨_, rfl⟩
  obtain ⟨Q, hQ⟩ : ∃ Q, Q = CleanOut ⟨kd, x, rs⟩ w := ⟨_, rfl⟩
  rw [← hQ]
  have HOUT := Lib.hid (fun (tf tp : Value) (w' : World) (ha : NdIn w' w'.heap.size (cs.nd, tf, tp)) (hb : Fresh w.heap.size tf) (hc : Fresh w.heap.size tp) (hd : Fr w.heap.size [] w w') => (by
    rw [hQ]
    unfold CleanOut
    rw [← hcs]
    exact ⟨tf, tp, rfl, ha, hb, hc, hd⟩ : Q (.returned (.agg (stV cs tf tp))) w'))
  have HCS := Lib.hid hcs
  have b1 := (((Blk.new w 37 (stA kd x rs (.slice Af nf cf) (.slice Ap np cp))).alloc (.cells #[.int .i64 0, .int .i64 0, .int .i64 0, .slice none 0 0, .slice none 0 0, .int .i64 0, .int .i64 0, .int .i64 0, .int .i64 0, .int .i64 0, .int .i64 0, .int .i64 0, .int .i64 0, .int .i64 0, .bool false] 37)).alloc (.cells #[.int .i64 x.id, .int .i64 x.kind, .slice Af nf cf, .slice Ap np cp, .int .i64 x.par, .int .i64 (x.rt 0), .int .i64 (x.rt 1), .int .i64 (x.rt 2), .int .i64 (x.rt 3), .int .i64 (x.rt 4), .int .i64 (x.rt 5), .int .i64 (x.rt 6), .int .i64 (x.rt 7)] 35)).alloc (.cells #[.int .i64 kd, .int .i64 0, .int .i64 0, .slice none 0 0, .slice none 0 0, .int .i64 0, .int .i64 0, .int .i64 0, .int .i64 0, .int .i64 0, .int .i64 0, .int .i64 0, .int .i64 0, .int .i64 0, .bool false] 37)
  have b2 := ((Blk.new (w.alloc (.cells (stA kd x rs (.slice Af nf cf) (.slice Ap np cp)) 37)) 37 #[.int .i64 0, .int .i64 0, .int .i64 0, .slice none 0 0, .slice none 0 0, .int .i64 0, .int .i64 0, .int .i64 0, .int .i64 0, .int .i64 0, .int .i64 0, .int .i64 0, .int .i64 0, .int .i64 0, .bool false]).alloc (.cells #[.int .i64 x.id, .int .i64 x.kind, .slice Af nf cf, .slice Ap np cp, .int .i64 x.par, .int .i64 (x.rt 0), .int .i64 (x.rt 1), .int .i64 (x.rt 2), .int .i64 (x.rt 3), .int .i64 (x.rt 4), .int .i64 (x.rt 5), .int .i64 (x.rt 6), .int .i64 (x.rt 7)] 35)).alloc (.cells #[.int .i64 kd, .int .i64 0, .int .i64 0, .slice none 0 0, .slice none 0 0, .int .i64 0, .int .i64 0, .int .i64 0, .int .i64 0, .int .i64 0, .int .i64 0, .int .i64 0, .int .i64 0, .int .i64 0, .bool false] 37)
  have b3 := (Blk.new ((w.alloc (.cells (stA kd x rs (.slice Af nf cf) (.slice Ap np cp)) 37)).alloc (.cells #[.int .i64 0, .int .i64 0, .int .i64 0, .slice none 0 0, .slice none 0 0, .int .i64 0, .int .i64 0, .int .i64 0, .int .i64 0, .int .i64 0, .int .i64 0, .int .i64 0, .int .i64 0, .int .i64 0, .bool false] 37)) 35 #[.int .i64 x.id, .int .i64 x.kind, .slice Af nf cf, .slice Ap np cp, .int .i64 x.par, .int .i64 (x.rt 0), .int .i64 (x.rt 1), .int .i64 (x.rt 2), .int .i64 (x.rt 3), .int .i64 (x.rt 4), .int .i64 (x.rt 5), .int .i64 (x.rt 6), .int .i64 (x.rt 7)]).alloc (.cells #[.int .i64 kd, .int .i64 0, .int .i64 0, .slice none 0 0, .slice none 0 0, .int .i64 0, .int .i64 0, .int .i64 0, .int .i64 0, .int .i64 0, .int .i64 0, .int .i64 0, .int .i64 0, .int .i64 0, .bool false] 37)
  have b4 := Blk.new (((w.alloc (.cells (stA kd x rs (.slice Af nf cf) (.slice Ap np cp)) 37)).alloc (.cells #[.int .i64 0, .int .i64 0, .int .i64 0, .slice none 0 0, .slice none 0 0, .int .i64 0, .int .i64 0, .int .i64 0, .int .i64 0, .int .i64 0, .int .i64 0, .int .i64 0, .int .i64 0, .int .i64 0, .bool false] 37)).alloc (.cells #[.int .i64 x.id, .int .i64 x.kind, .slice Af nf cf, .slice Ap np cp, .int .i64 x.par, .int .i64 (x.rt 0), .int .i64 (x.rt 1), .int .i64 (x.rt 2), .int .i64 (x.rt 3), .int .i64 (x.rt 4), .int .i64 (x.rt 5), .int .i64 (x.rt 6), .int .i64 (x.rt 7)] 35)) 37 #[.int .i64 kd, .int .i64 0, .int .i64 0, .slice none 0 0, .slice none 0 0, .int .i64 0, .int .i64 0, .int .i64 0, .int .i64 0, .int .i64 0, .int .i64 0, .int .i64 0, .int .i64 0, .int .i64 0, .bool false]
  simp only [World.size_alloc] at b2 b3 b4
  have fA := (((((Fr.refl w.heap.size [] w).alloc (Nat.le_refl _) (.cells (stA kd x rs (.slice Af nf cf) (.slice Ap np cp)) 37)).alloc (by simp) (.cells #[.int .i64 0, .int .i64 0, .int .i64 0, .slice none 0 0, .slice none 0 0, .int .i64 0, .int .i64 0, .int .i64 0, .int .i64 0, .int .i64 0, .int .i64 0, .int .i64 0, .int .i64 0, .int .i64 0, .bool false] 37)).alloc (by simp; omega) (.cells #[.int .i64 x.id, .int .i64 x.kind, .slice Af nf cf, .slice Ap np cp, .int .i64 x.par, .int .i64 (x.rt 0), .int .i64 (x.rt 1), .int .i64 (x.rt 2), .int .i64 (x.rt 3), .int .i64 (x.rt 4), .int .i64 (x.rt 5), .int .i64 (x.rt 6), .int .i64 (x.rt 7)] 35)).alloc (by simp; omega) (.cells #[.int .i64 kd, .int .i64 0, .int .i64 0, .slice none 0 0, .slice none 0 0, .int .i64 0, .int .i64 0, .int .i64 0, .int .i64 0, .int .i64 0, .int .i64 0, .int .i64 0, .int .i64 0, .int .i64 0, .bool false] 37))
  have hsa : ((((w.alloc (.cells (stA kd x rs (.slice Af nf cf) (.slice Ap np cp)) 37)).alloc (.cells #[.int .i64 0, .int .i64 0, .int .i64 0, .slice none 0 0, .slice none 0 0, .int .i64 0, .int .i64 0, .int .i64 0, .int .i64 0, .int .i64 0, .int .i64 0, .int .i64 0, .int .i64 0, .int .i64 0, .bool false] 37)).alloc (.cells #[.int .i64 x.id, .int .i64 x.kind, .slice Af nf cf, .slice Ap np cp, .int .i64 x.par, .int .i64 (x.rt 0), .int .i64 (x.rt 1), .int .i64 (x.rt 2), .int .i64 (x.rt 3), .int .i64 (x.rt 4), .int .i64 (x.rt 5), .int .i64 (x.rt 6), .int .i64 (x.rt 7)] 35)).alloc (.cells #[.int .i64 kd, .int .i64 0, .int .i64 0, .slice none 0 0, .slice none 0 0, .int .i64 0, .int .i64 0, .int .i64 0, .int .i64 0, .int .i64 0, .int .i64 0, .int .i64 0, .int .i64 0, .int .i64 0, .bool false] 37)).heap.size = w.heap.size + 1 + 1 + 1 + 1 := by simp only [World.size_alloc]
  have B1 := Lib.hid b1
  have B2 := Lib.hid b2
  have B3 := Lib.hid b3
  have B4 := Lib.hid b4
  have FA := Lib.hid fA
  have HSA := Lib.hid hsa
  clear hf2 hp2 hnf hnp hcs hQ b1 b2 b3 b4 fA hsa
  go_enter Try.func9, Try.ntmps9
  go_upto_region 3 with fail
  generalize (((w.alloc (.cells (stA kd x rs (.slice Af nf cf) (.slice Ap np cp)) 37)).alloc (.cells #[.int .i64 0, .int .i64 0, .int .i64 0, .slice none 0 0, .slice none 0 0, .int .i64 0, .int .i64 0, .int .i64 0, .int .i64 0, .int .i64 0, .int .i64 0, .int .i64 0, .int .i64 0, .int .i64 0, .bool false] 37)).alloc (.cells #[.int .i64 x.id, .int .i64 x.kind, .slice Af nf cf, .slice Ap np cp, .int .i64 x.par, .int .i64 (x.rt 0), .int .i64 (x.rt 1), .int .i64 (x.rt 2), .int .i64 (x.rt 3), .int .i64 (x.rt 4), .int .i64 (x.rt 5), .int .i64 (x.rt 6), .int .i64 (x.rt 7)] 35)).alloc (.cells #[.int .i64 kd, .int .i64 0, .int .i64 0, .slice none 0 0, .slice none 0 0, .int .i64 0, .int .i64 0, .int .i64 0, .int .i64 0, .int .i64 0, .int .i64 0, .int .i64 0, .int .i64 0, .int .i64 0, .bool false] 37) = wa at *
  obtain ⟨g, hg⟩ : ∃ g, g = w.heap.size := ⟨_, rfl⟩
  rw [← hg] at B1 B2 B3 B4 HSA
  try rw [← hg]
  have HG := Lib.hid hg
  clear hg
  have k0 := B1.out.cell 0
  have k14 := B1.out.cell 14
  have n0 := B3.out.cell 0
  have n1 := B3.out.cell 1
  have n2 := B3.out.cell 2
  have n3 := B3.out.cell 3
  have n4 := B3.out.cell 4
  have n5 := B3.out.cell 5
  have n6 := B3.out.cell 6
  have n7 := B3.out.cell 7
  have n8 := B3.out.cell 8
  have n9 := B3.out.cell 9
  have n10 := B3.out.cell 10
  have n11 := B3.out.cell 11
  have n12 := B3.out.cell 12
  simp at k0 k14 n0 n1 n2 n3 n4 n5 n6 n7 n8 n9 n10 n11 n12
  have y1 := B4.out.frozen 1
  have y2 := B4.out.frozen 2
  have y3 := B4.out.frozen 3
  have y4 := B4.out.frozen 4
  have y5 := B4.out.frozen 5
  have y6 := B4.out.frozen 6
  have y7 := B4.out.frozen 7
  have y8 := B4.out.frozen 8
  have y9 := B4.out.frozen 9
  have y10 := B4.out.frozen 10
  have y11 := B4.out.frozen 11
  have y12 := B4.out.frozen 12
  have y13 := B4.out.frozen 13
  have y14 := B4.out.frozen 14
  have m1 := B4.out.cell 1
  have m2 := B4.out.cell 2
  have m3 := B4.out.cell 3
  have m4 := B4.out.cell 4
  have m5 := B4.out.cell 5
  have m6 := B4.out.cell 6
  have m7 := B4.out.cell 7
  have m8 := B4.out.cell 8
  have m9 := B4.out.cell 9
  have m10 := B4.out.cell 10
  have m11 := B4.out.cell 11
  have m12 := B4.out.cell 12
  have m13 := B4.out.cell 13
  have m14 := B4.out.cell 14
  simp at m1 m2 m3 m4 m5 m6 m7 m8 m9 m10 m11 m12 m13 m14
  by_cases e1 : kd = 1
  · subst e1
    obtain rfl : cs = ⟨1, ⟨x.id, 0, 0, [], x.pg, fun _ => 0⟩, rs⟩ := by
      rw [HCS.out]
      unfold cleanS
      simp
    clear HCS
    have HCL := Lib.hid (fun (wx : World) (hx : Fr wa.heap.size [] wa wx) => (by
      have FX := FA.out.trans (hx.mono (B' := w.heap.size) (L' := []) FA.out.size (by simp))
      exact pclone_any Ap np cp B x.pg wx HNP.out h2 (RP.out.fr FX hB (by simp)) (Nat.le_trans hB FX.size) : Calls Try.prog 21 #[.slice Ap np cp] wx fun e w' => ∃ A' c', e = .returned (.slice A' np c') ∧ w'.ownsRow wx.heap.size 44 2 (.slice A' np c') np (cellsI x.pg) ∧ Fr wx.heap.size [] wx w'))
    have SF := Lib.hid (fun (w : World) (h : Fr wa.heap.size [g + 1 + 1 + 1] wa w) => (⟨(B3.out.fr h B3.out.lt (by simp)).cell 0, (B3.out.fr h B3.out.lt (by simp)).cell 3, (B1.out.fr h B1.out.lt (by simp; omega)).cell 14⟩ : w.cell? ⟨g + 1 + 1, 0, none⟩ = some (.int .i64 x.id) ∧ w.cell? ⟨g + 1 + 1, 3, none⟩ = some (.slice Ap np cp) ∧ w.cell? ⟨g, 14, none⟩ = some (.bool rs)))
    have INV := Lib.hid ((Fr.refl wa.heap.size [g + 1 + 1 + 1] wa).drew)
    have IN0 := Lib.hid ((Fr.refl wa.heap.size [] wa).drew)
    go_wp2_with fail
    clear k0 k14 n0 n1 n2 n3 n4 n5 n6 n7 n8 n9 n10 n11 n12 y1 m1 y2 m2 y3 m3 y4 m4 y5 m5 y6 m6 y7 m7 y8 m8 y9 m9 y10 m10 y11 m11 y12 m12 y13 m13 y14 m14
    refine wp_region_held_drew (S := fun w => w.cell? ⟨g + 1 + 1, 0, none⟩ = some (.int .i64 x.id) ∧ w.cell? ⟨g + 1 + 1, 3, none⟩ = some (.slice Ap np cp) ∧ w.cell? ⟨g, 14, none⟩ = some (.bool rs)) (by kernel_rfl) (SF.out _ INV.out) (fun hHeld => ?_)
    refine wpAnyH_take (i := 0) (oi := { dst := some 15, op := Op.fieldAddr 35 (Operand.tmp 3) 0, type := 0, pos := "plan.go:27", after := #[], guard := none }) (v := ?_) rfl (by kernel_rfl) (by kernel_rfl) (by kernel_rfl) (fun _ _ _ h => h) (Or.inl ⟨by rfl, ?_⟩) hHeld ?_
    rotate_left
    · intro w hSw; (try dsimp only at hSw); go_simp; (try with_reducible rfl)
    simp only [Act.put, List.setIfInBounds_toArray, List.set_cons_zero, List.set_cons_succ]
    refine wpAnyH_take (i := 1) (oi := { dst := some 16, op := Op.load 3 (Operand.tmp 15), type := 3, pos := "plan.go:27", after := #[{ on := 0, ground := Ground.data }], guard := none }) (v := ?_) rfl (by kernel_rfl) (by kernel_rfl) (by kernel_rfl) (fun _ _ _ h => h) (Or.inl ⟨by rfl, ?_⟩) hHeld ?_
    rotate_left
    · intro w hSw; (try dsimp only at hSw); go_simp; (try with_reducible rfl)
    simp only [Act.put, List.setIfInBounds_toArray, List.set_cons_zero, List.set_cons_succ]
    refine wpAnyH_take (i := 2) (oi := { dst := some 17, op := Op.fieldAddr 35 (Operand.tmp 3) 3, type := 0, pos := "plan.go:27", after := #[], guard := none }) (v := ?_) rfl (by kernel_rfl) (by kernel_rfl) (by kernel_rfl) (fun _ _ _ h => h) (Or.inl ⟨by rfl, ?_⟩) hHeld ?_
    rotate_left
    · intro w hSw; (try dsimp only at hSw); go_simp; (try with_reducible rfl)
    simp only [Act.put, List.setIfInBounds_toArray, List.set_cons_zero, List.set_cons_succ]
    refine wpAnyH_take (i := 3) (oi := { dst := some 18, op := Op.load 32 (Operand.tmp 17), type := 32, pos := "plan.go:27", after := #[{ on := 2, ground := Ground.data }], guard := none }) (v := ?_) rfl (by kernel_rfl) (by kernel_rfl) (by kernel_rfl) (fun _ _ _ h => h) (Or.inl ⟨by rfl, ?_⟩) hHeld ?_
    rotate_left
    · intro w hSw; (try dsimp only at hSw); go_simp; (try with_reducible rfl)
    simp only [Act.put, List.setIfInBounds_toArray, List.set_cons_zero, List.set_cons_succ]
    refine wpAnyH_take (i := 6) (oi := { dst := some 21, op := Op.fieldAddr 37 (Operand.tmp 1) 2, type := 0, pos := "plan.go:27", after := #[{ on := 9, ground := Ground.gcOnly Departure.lateStores }], guard := none }) (v := ?_) rfl (by kernel_rfl) (by kernel_rfl) (by kernel_rfl) (fun _ _ _ h => h) (Or.inl ⟨by rfl, ?_⟩) hHeld ?_
    rotate_left
    · intro w hSw; (try dsimp only at hSw); go_simp; (try with_reducible rfl)
    simp only [Act.put, List.setIfInBounds_toArray, List.set_cons_zero, List.set_cons_succ]
    refine wpAnyH_take (i := 7) (oi := { dst := some 22, op := Op.load 4 (Operand.tmp 21), type := 4, pos := "plan.go:27", after := #[{ on := 6, ground := Ground.data }, { on := 9, ground := Ground.gcOnly Departure.lateStores }], guard := none }) (v := ?_) rfl (by kernel_rfl) (by kernel_rfl) (by kernel_rfl) (fun _ _ _ h => h) (Or.inl ⟨by rfl, ?_⟩) hHeld ?_
    rotate_left
    · intro w hSw; (try dsimp only at hSw); go_simp; (try with_reducible rfl)
    simp only [Act.put, List.setIfInBounds_toArray, List.set_cons_zero, List.set_cons_succ]
    refine wpAnyH_ready (rs := [4]) (by kernel_rfl) (by simp) ?_
    refine AllReadyH.cons (o := { dst := some 19, op := Op.call { callee := Callee.value (Operand.func 21), args := #[Operand.tmp 18], argTypes := #[32] }, type := 32, pos := "plan.go:27", after := #[{ on := 3, ground := Ground.data }], guard := none }) rfl (fun K hK => ?_) AllReadyH.nil
    rw [if_pos (by rfl)]
    go_simp
    refine (HCL.out _ IN0.out).mono ?_
    rintro e w' ⟨A1, c1, rfl, ho, hf⟩
    have HO := Lib.hid (ownsRow_base ho IN0.out.size)
    have IN0 := Lib.hid (IN0.out.trans (hf.mono IN0.out.size (by simp)))
    have INV := Lib.hid (INV.out.trans (hf.mono INV.out.size (by simp)))
    clear ho hf
    refine hK.out _ _ (SF.out _ INV.out) (fun hHeld => ?_)
    clear hK K
    try simp only [Act.put, List.setIfInBounds_toArray, List.set_cons_zero, List.set_cons_succ]
    refine wpAnyH_take (i := 5) (oi := { dst := some 20, op := Op.build 35 #[(0, Operand.tmp 16), (3, Operand.tmp 19)], type := 35, pos := "plan.go:27", after := #[{ on := 1, ground := Ground.data }, { on := 4, ground := Ground.data }], guard := none }) (v := ?_) rfl (by kernel_rfl) (by kernel_rfl) (by kernel_rfl) (fun _ _ _ h => h) (Or.inl ⟨by rfl, ?_⟩) hHeld ?_
    rotate_left
    · intro w hSw; (try dsimp only at hSw); go_simp; (try with_reducible rfl)
    simp only [Act.put, List.setIfInBounds_toArray, List.set_cons_zero, List.set_cons_succ]
    refine wpAnyH_take (i := 8) (oi := { dst := some 23, op := Op.fieldAddr 37 (Operand.tmp 4) 1, type := 0, pos := "plan.go:27", after := #[{ on := 0, ground := Ground.phase }, { on := 1, ground := Ground.phase }, { on := 2, ground := Ground.phase }, { on := 3, ground := Ground.phase }, { on := 4, ground := Ground.phase }, { on := 5, ground := Ground.phase }, { on := 6, ground := Ground.textOnly Departure.lateStores }, { on := 7, ground := Ground.textOnly Departure.lateStores }], guard := none }) (v := ?_) rfl (by kernel_rfl) (by kernel_rfl) (by kernel_rfl) (fun _ _ _ h => h) (Or.inl ⟨by rfl, ?_⟩) hHeld ?_
    rotate_left
    · intro w hSw; (try dsimp only at hSw); go_simp; (try with_reducible rfl)
    simp only [Act.put, List.setIfInBounds_toArray, List.set_cons_zero, List.set_cons_succ]
    refine wpAnyH_ready (rs := [9]) (by kernel_rfl) (by simp) ?_
    refine AllReadyH.cons (o := { dst := none, op := Op.store 35 (Operand.tmp 23) (Operand.tmp 20), type := 0, pos := "plan.go:27", after := #[{ on := 8, ground := Ground.data }, { on := 5, ground := Ground.data }, { on := 4, ground := Ground.chain }, { on := 0, ground := Ground.phase }, { on := 1, ground := Ground.phase }, { on := 2, ground := Ground.phase }, { on := 3, ground := Ground.phase }, { on := 4, ground := Ground.phase }, { on := 5, ground := Ground.phase }, { on := 6, ground := Ground.textOnly Departure.lateStores }, { on := 7, ground := Ground.textOnly Departure.lateStores }], guard := none }) rfl (fun K hK => ?_) AllReadyH.nil
    rw [if_pos (by rfl)]
    have B4' := B4.out.fr IN0.out B4.out.lt (by simp)
    have y1 := B4'.frozen 1
    have y2 := B4'.frozen 2
    have y3 := B4'.frozen 3
    have y4 := B4'.frozen 4
    have y5 := B4'.frozen 5
    have y6 := B4'.frozen 6
    have y7 := B4'.frozen 7
    have y8 := B4'.frozen 8
    have y9 := B4'.frozen 9
    have y10 := B4'.frozen 10
    have y11 := B4'.frozen 11
    have y12 := B4'.frozen 12
    have y13 := B4'.frozen 13
    have m1 := B4'.cell 1
    have m2 := B4'.cell 2
    have m3 := B4'.cell 3
    have m4 := B4'.cell 4
    have m5 := B4'.cell 5
    have m6 := B4'.cell 6
    have m7 := B4'.cell 7
    have m8 := B4'.cell 8
    have m9 := B4'.cell 9
    have m10 := B4'.cell 10
    have m11 := B4'.cell 11
    have m12 := B4'.cell 12
    have m13 := B4'.cell 13
    simp at m1 m2 m3 m4 m5 m6 m7 m8 m9 m10 m11 m12 m13
    go_simp
    have INV1 := Lib.hid (fr_setL (g := g + 1 + 1 + 1) (.inr (by simp)) ([.int .i64 x.id, .int .i64 0, (.slice none 0 0), (.slice A1 np c1), .int .i64 0, .int .i64 0, .int .i64 0, .int .i64 0, .int .i64 0, .int .i64 0, .int .i64 0, .int .i64 0, .int .i64 0]) 1 INV.out)
    have INV := INV1
    clear y1 m1 y2 m2 y3 m3 y4 m4 y5 m5 y6 m6 y7 m7 y8 m8 y9 m9 y10 m10 y11 m11 y12 m12 y13 m13
    refine hK.out _ _ (SF.out _ INV.out) (fun hHeld => ?_)
    clear hK K
    try simp only [Act.put, List.setIfInBounds_toArray, List.set_cons_zero, List.set_cons_succ]
    refine wpAnyH_take (i := 10) (oi := { dst := some 24, op := Op.fieldAddr 37 (Operand.tmp 4) 2, type := 0, pos := "plan.go:27", after := #[{ on := 0, ground := Ground.phase }, { on := 1, ground := Ground.phase }, { on := 2, ground := Ground.phase }, { on := 3, ground := Ground.phase }, { on := 4, ground := Ground.phase }, { on := 5, ground := Ground.phase }, { on := 6, ground := Ground.phase }, { on := 7, ground := Ground.phase }, { on := 8, ground := Ground.phase }, { on := 9, ground := Ground.phase }], guard := none }) (v := ?_) rfl (by kernel_rfl) (by kernel_rfl) (by kernel_rfl) (fun _ _ _ h => h) (Or.inl ⟨by rfl, ?_⟩) hHeld ?_
    rotate_left
    · intro w hSw; (try dsimp only at hSw); go_simp; (try with_reducible rfl)
    simp only [Act.put, List.setIfInBounds_toArray, List.set_cons_zero, List.set_cons_succ]
    refine wpAnyH_ready (rs := [11]) (by kernel_rfl) (by simp) ?_
    refine AllReadyH.cons (o := { dst := none, op := Op.store 4 (Operand.tmp 24) (Operand.tmp 22), type := 0, pos := "plan.go:27", after := #[{ on := 10, ground := Ground.data }, { on := 7, ground := Ground.data }, { on := 9, ground := Ground.chain }, { on := 0, ground := Ground.phase }, { on := 1, ground := Ground.phase }, { on := 2, ground := Ground.phase }, { on := 3, ground := Ground.phase }, { on := 4, ground := Ground.phase }, { on := 5, ground := Ground.phase }, { on := 6, ground := Ground.phase }, { on := 7, ground := Ground.phase }, { on := 8, ground := Ground.phase }, { on := 9, ground := Ground.phase }], guard := none }) rfl (fun K hK => ?_) AllReadyH.nil
    rw [if_pos (by rfl)]
    have b5 := blk_setL ([.int .i64 x.id, .int .i64 0, (.slice none 0 0), (.slice A1 np c1), .int .i64 0, .int .i64 0, .int .i64 0, .int .i64 0, .int .i64 0, .int .i64 0, .int .i64 0, .int .i64 0, .int .i64 0]) 1 (B4.out.fr IN0.out B4.out.lt (by simp))
    simp only [putL, List.setIfInBounds_toArray, List.set_cons_succ, List.set_cons_zero, Nat.reduceAdd] at b5
    have y14 := b5.frozen 14
    have m14 := b5.cell 14
    simp at m14
    simp only [setL, Nat.reduceAdd] at y14 m14
    go_simp
    have INV := Lib.hid (INV1.out.setCell (p := ⟨g + 1 + 1 + 1, 14, none⟩) (.inr (by simp)) (.bool rs))
    clear b5 y14 m14
    refine hK.out _ _ (SF.out _ INV.out) (fun hHeld => ?_)
    clear hK K
    try simp only [Act.put, List.setIfInBounds_toArray, List.set_cons_zero, List.set_cons_succ]
    refine wpAnyH_done (by kernel_rfl) ?_ _
    have B45 := Lib.hid (B4.out.fr IN0.out B4.out.lt (by simp))
    have B25 := Lib.hid (B2.out.fr IN0.out B2.out.lt (by simp))
    have F5 := Lib.hid (FA.out.trans (IN0.out.mono (B' := w.heap.size) (L' := []) FA.out.size (by simp)))
    clear INV SF hHeld HCL
    go_upto_region 15 with fail
    generalize hwz : World.setCell _ _ _ = wz
    have d4 := (blk_setL ([.int .i64 x.id, .int .i64 0, (.slice none 0 0), (.slice A1 np c1), .int .i64 0, .int .i64 0, .int .i64 0, .int .i64 0, .int .i64 0, .int .i64 0, .int .i64 0, .int .i64 0, .int .i64 0]) 1 B45.out).set_ 14 (.bool rs)
    simp only [putL, List.setIfInBounds_toArray, List.set_cons_succ, List.set_cons_zero, Nat.reduceAdd] at d4
    have d2 := (far_setL (g := g + 1 + 1 + 1) (by omega) ([.int .i64 x.id, .int .i64 0, (.slice none 0 0), (.slice A1 np c1), .int .i64 0, .int .i64 0, .int .i64 0, .int .i64 0, .int .i64 0, .int .i64 0, .int .i64 0, .int .i64 0, .int .i64 0]) 1 B25.out).far (p := ⟨g + 1 + 1 + 1, 14, none⟩) (by simp) (.bool rs)
    have fz := (fr_setL (g := g + 1 + 1 + 1) (.inl (by have := HG.out; omega)) ([.int .i64 x.id, .int .i64 0, (.slice none 0 0), (.slice A1 np c1), .int .i64 0, .int .i64 0, .int .i64 0, .int .i64 0, .int .i64 0, .int .i64 0, .int .i64 0, .int .i64 0, .int .i64 0]) 1 F5.out).setCell (p := ⟨g + 1 + 1 + 1, 14, none⟩) (.inl (by have := HG.out; simp; omega)) (.bool rs)
    have fs := (fr_setL (g := g + 1 + 1 + 1) (.inr (by simp)) ([.int .i64 x.id, .int .i64 0, (.slice none 0 0), (.slice A1 np c1), .int .i64 0, .int .i64 0, .int .i64 0, .int .i64 0, .int .i64 0, .int .i64 0, .int .i64 0, .int .i64 0, .int .i64 0]) 1 (Fr.refl w'.heap.size [g + 1 + 1 + 1] w')).setCell (p := ⟨g + 1 + 1 + 1, 14, none⟩) (.inr (by simp)) (.bool rs)
    have D4 := Lib.hid (by rw [← hwz]; exact d4 : Blk wz (g + 1 + 1 + 1) 37 _)
    have D2 := Lib.hid (by rw [← hwz]; exact d2 : Blk wz (g + 1) 37 _)
    have FZ := Lib.hid (by rw [← hwz]; exact fz : Fr w.heap.size [] w wz)
    have FS := Lib.hid (by rw [← hwz]; exact fs : Fr w'.heap.size [g + 1 + 1 + 1] w' wz)
    clear hwz d4 d2 fz fs
    have OWN := Lib.hid (ownsRow_fr HO.out FS.out (fun q hq => ⟨(HO.out.lt q hq).2, by have := (HO.out.lt q hq).1; have := HSA.out; simp; omega⟩))
    have NIN := Lib.hid (show NdIn wz wz.heap.size ((⟨x.id, 0, 0, [], x.pg, fun _ => 0⟩ : Nd), .slice none 0 0, .slice A1 np c1) from ⟨⟨none, 0, rfl, Reads.none_⟩, ⟨A1, c1, by rw [HNP.out], by rw [← HNP.out]; exact Reads.of_own OWN.out⟩⟩)
    have FP := Lib.hid (fresh_own HO.out (b := g + 4) (by have := HSA.out; omega))
    have FF := Lib.hid (fresh_nil (g + 4))
    clear FS HO OWN IN0
    have q0 := D4.out.cell 0
    have q1 := D4.out.cell 1
    have q2 := D4.out.cell 2
    have q3 := D4.out.cell 3
    have q4 := D4.out.cell 4
    have q5 := D4.out.cell 5
    have q6 := D4.out.cell 6
    have q7 := D4.out.cell 7
    have q8 := D4.out.cell 8
    have q9 := D4.out.cell 9
    have q10 := D4.out.cell 10
    have q11 := D4.out.cell 11
    have q12 := D4.out.cell 12
    have q13 := D4.out.cell 13
    have q14 := D4.out.cell 14
    simp at q0 q1 q2 q3 q4 q5 q6 q7 q8 q9 q10 q11 q12 q13 q14
    have z0 := D2.out.frozen 0
    have z1 := D2.out.frozen 1
    have z2 := D2.out.frozen 2
    have z3 := D2.out.frozen 3
    have z4 := D2.out.frozen 4
    have z5 := D2.out.frozen 5
    have z6 := D2.out.frozen 6
    have z7 := D2.out.frozen 7
    have z8 := D2.out.frozen 8
    have z9 := D2.out.frozen 9
    have z10 := D2.out.frozen 10
    have z11 := D2.out.frozen 11
    have z12 := D2.out.frozen 12
    have z13 := D2.out.frozen 13
    have z14 := D2.out.frozen 14
    have s0 := D2.out.cell 0
    have s1 := D2.out.cell 1
    have s2 := D2.out.cell 2
    have s3 := D2.out.cell 3
    have s4 := D2.out.cell 4
    have s5 := D2.out.cell 5
    have s6 := D2.out.cell 6
    have s7 := D2.out.cell 7
    have s8 := D2.out.cell 8
    have s9 := D2.out.cell 9
    have s10 := D2.out.cell 10
    have s11 := D2.out.cell 11
    have s12 := D2.out.cell 12
    have s13 := D2.out.cell 13
    have s14 := D2.out.cell 14
    simp at s0 s1 s2 s3 s4 s5 s6 s7 s8 s9 s10 s11 s12 s13 s14
    go_wp2_with fail
    have be := blk_setL ([.int .i64 1, .int .i64 x.id, .int .i64 0, (.slice none 0 0), (.slice A1 np c1), .int .i64 0, .int .i64 (0 : Int), .int .i64 (0 : Int), .int .i64 (0 : Int), .int .i64 (0 : Int), .int .i64 (0 : Int), .int .i64 (0 : Int), .int .i64 (0 : Int), .int .i64 (0 : Int), .bool rs]) 0 D2.out
    simp only [putL, List.setIfInBounds_toArray, List.set_cons_succ, List.set_cons_zero, Nat.reduceAdd] at be
    have BE := Lib.hid be
    clear be
    have fe := fr_setL (g := g + 1) (.inr (by simp)) ([.int .i64 1, .int .i64 x.id, .int .i64 0, (.slice none 0 0), (.slice A1 np c1), .int .i64 0, .int .i64 (0 : Int), .int .i64 (0 : Int), .int .i64 (0 : Int), .int .i64 (0 : Int), .int .i64 (0 : Int), .int .i64 (0 : Int), .int .i64 (0 : Int), .int .i64 (0 : Int), .bool rs]) 0 (Fr.refl wz.heap.size [g + 1] wz)
    have FE := Lib.hid (FZ.out.trans (fe.mono (B' := w.heap.size) (L' := []) FZ.out.size (by intro k hk hlt; have := HG.out; simp at hk; omega)))
    have NE := Lib.hid ((ndin_fresh NIN.out FF.out FP.out fe (Nat.le_refl _) (by intro k hk; simp at hk; omega)).more fe.size)
    refine bodyPost_ret (results_cell_row rfl _ _ (g + 1) 37 (stV (⟨1, ⟨x.id, 0, 0, [], x.pg, fun _ => 0⟩, rs⟩ : Stp) (.slice none 0 0) (.slice A1 np c1)) (0, 0) _ rfl BE.out Try.underlying37 rfl (by kernel_rfl)) rfl (HOUT.out (.slice none 0 0) (.slice A1 np c1) _ NE.out (fresh_le FF.out (by have := HG.out; omega)) (fresh_le FP.out (by have := HG.out; omega)) FE.out)
  · exact absurd HKD.out e1
set_option maxRecDepth 100000 in
set_option maxHeartbeats 16000000 in
theorem clean_5 (kd : Int) (x : Nd) (rs : Bool) (sf sp : Value) (B : Nat) (w : World) (hkd : kd = 5) (h : NdIn w B (x, sf, sp)) (hB : B ≤ w.heap.size) (h1 : x.fr.length ≤ 1000000) (h2 : x.pg.length ≤ 1000000) :
    Calls Try.prog 9 #[.agg (stA kd x rs sf sp)] w (CleanOut ⟨kd, x, rs⟩ w) := by
  have HKD := Lib.hid hkd
  clear hkd
  obtain ⟨⟨Af, cf, hf1, hf2⟩, ⟨Ap, cp, hp1, hp2⟩⟩ := h
  simp only at hf1 hf2 hp1 hp2
  subst hf1
  subst hp1
  obtain ⟨nf, hnf⟩ : ∃ z, z = x.fr.length := ⟨_, rfl⟩
  obtain ⟨np, hnp⟩ : ∃ z, z = x.pg.length := ⟨_, rfl⟩
  have RP := Lib.hid hp2
  have RF := Lib.hid hf2
  rw [← hnf] at RF h1 ⊢
  rw [← hnp] at RP h2 ⊢
  have HNF := Lib.hid hnf
  have HNP := Lib.hid hnp
  obtain ⟨cs, hcs⟩ : ∃ c, c = cleanS ⟨kd, x, rs⟩ := ⟨_, rfl⟩
  obtain ⟨Q, hQ⟩ : ∃ Q, Q = CleanOut ⟨kd, x, rs⟩ w := ⟨_, rfl⟩
  rw [← hQ]
  have HOUT := Lib.hid (fun (tf tp : Value) (w' : World) (ha : NdIn w' w'.heap.size (cs.nd, tf, tp)) (hb : Fresh w.heap.size tf) (hc : Fresh w.heap.size tp) (hd : Fr w.heap.size [] w w') => (by
    rw [hQ]
    unfold CleanOut
    rw [← hcs]
    exact ⟨tf, tp, rfl, ha, hb, hc, hd⟩ : Q (.returned (.agg (stV cs tf tp))) w'))
  have HCS := Lib.hid hcs
  have b1 := (((Blk.new w 37 (stA kd x rs (.slice Af nf cf) (.slice Ap np cp))).alloc (.cells #[.int .i64 0, .int .i64 0, .int .i64 0, .slice none 0 0, .slice none 0 0, .int .i64 0, .int .i64 0, .int .i64 0, .int .i64 0, .int .i64 0, .int .i64 0, .int .i64 0, .int .i64 0, .int .i64 0, .bool false] 37)).alloc (.cells #[.int .i64 x.id, .int .i64 x.kind, .slice Af nf cf, .slice Ap np cp, .int .i64 x.par, .int .i64 (x.rt 0), .int .i64 (x.rt 1), .int .i64 (x.rt 2), .int .i64 (x.rt 3), .int .i64 (x.rt 4), .int .i64 (x.rt 5), .int .i64 (x.rt 6), .int .i64 (x.rt 7)] 35)).alloc (.cells #[.int .i64 kd, .int .i64 0, .int .i64 0, .slice none 0 0, .slice none 0 0, .int .i64 0, .int .i64 0, .int .i64 0, .int .i64 0, .int .i64 0, .int .i64 0, .int .i64 0, .int .i64 0, .int .i64 0, .bool false] 37)
  have b2 := ((Blk.new (w.alloc (.cells (stA kd x rs (.slice Af nf cf) (.slice Ap np cp)) 37)) 37 #[.int .i64 0, .int .i64 0, .int .i64 0, .slice none 0 0, .slice none 0 0, .int .i64 0, .int .i64 0, .int .i64 0, .int .i64 0, .int .i64 0, .int .i64 0, .int .i64 0, .int .i64 0, .int .i64 0, .bool false]).alloc (.cells #[.int .i64 x.id, .int .i64 x.kind, .slice Af nf cf, .slice Ap np cp, .int .i64 x.par, .int .i64 (x.rt 0), .int .i64 (x.rt 1), .int .i64 (x.rt 2), .int .i64 (x.rt 3), .int .i64 (x.rt 4), .int .i64 (x.rt 5), .int .i64 (x.rt 6), .int .i64 (x.rt 7)] 35)).alloc (.cells #[.int .i64 kd, .int .i64 0, .int .i64 0, .slice none 0 0, .slice none 0 0, .int .i64 0, .int .i64 0, .int .i64 0, .int .i64 0, .int .i64 0, .int .i64 0, .int .i64 0, .int .i64 0, .int .i64 0, .bool false] 37)
  have b3 := (Blk.new ((w.alloc (.cells (stA kd x rs (.slice Af nf cf) (.slice Ap np cp)) 37)).alloc (.cells #[.int .i64 0, .int .i64 0, .int .i64 0, .slice none 0 0, .slice none 0 0, .int .i64 0, .int .i64 0, .int .i64 0, .int .i64 0, .int .i64 0, .int .i64 0, .int .i64 0, .int .i64 0, .int .i64 0, .bool false] 37)) 35 #[.int .i64 x.id, .int .i64 x.kind, .slice Af nf cf, .slice Ap np cp, .int .i64 x.par, .int .i64 (x.rt 0), .int .i64 (x.rt 1), .int .i64 (x.rt 2), .int .i64 (x.rt 3), .int .i64 (x.rt 4), .int .i64 (x.rt 5), .int .i64 (x.rt 6), .int .i64 (x.rt 7)]).alloc (.cells #[.int .i64 kd, .int .i64 0, .int .i64 0, .slice none 0 0, .slice none 0 0, .int .i64 0, .int .i64 0, .int .i64 0, .int .i64 0, .int .i64 0, .int .i64 0, .int .i64 0, .int .i64 0, .int .i64 0, .bool false] 37)
  have b4 := Blk.new (((w.alloc (.cells (stA kd x rs (.slice Af nf cf) (.slice Ap np cp)) 37)).alloc (.cells #[.int .i64 0, .int .i64 0, .int .i64 0, .slice none 0 0, .slice none 0 0, .int .i64 0, .int .i64 0, .int .i64 0, .int .i64 0, .int .i64 0, .int .i64 0, .int .i64 0, .int .i64 0, .int .i64 0, .bool false] 37)).alloc (.cells #[.int .i64 x.id, .int .i64 x.kind, .slice Af nf cf, .slice Ap np cp, .int .i64 x.par, .int .i64 (x.rt 0), .int .i64 (x.rt 1), .int .i64 (x.rt 2), .int .i64 (x.rt 3), .int .i64 (x.rt 4), .int .i64 (x.rt 5), .int .i64 (x.rt 6), .int .i64 (x.rt 7)] 35)) 37 #[.int .i64 kd, .int .i64 0, .int .i64 0, .slice none 0 0, .slice none 0 0, .int .i64 0, .int .i64 0, .int .i64 0, .int .i64 0, .int .i64 0, .int .i64 0, .int .i64 0, .int .i64 0, .int .i64 0, .bool false]
  simp only [World.size_alloc] at b2 b3 b4
  have fA := (((((Fr.refl w.heap.size [] w).alloc (Nat.le_refl _) (.cells (stA kd x rs (.slice Af nf cf) (.slice Ap np cp)) 37)).alloc (by simp) (.cells #[.int .i64 0, .int .i64 0, .int .i64 0, .slice none 0 0, .slice none 0 0, .int .i64 0, .int .i64 0, .int .i64 0, .int .i64 0, .int .i64 0, .int .i64 0, .int .i64 0, .int .i64 0, .int .i64 0, .bool false] 37)).alloc (by simp; omega) (.cells #[.int .i64 x.id, .int .i64 x.kind, .slice Af nf cf, .slice Ap np cp, .int .i64 x.par, .int .i64 (x.rt 0), .int .i64 (x.rt 1), .int .i64 (x.rt 2), .int .i64 (x.rt 3), .int .i64 (x.rt 4), .int .i64 (x.rt 5), .int .i64 (x.rt 6), .int .i64 (x.rt 7)] 35)).alloc (by simp; omega) (.cells #[.int .i64 kd, .int .i64 0, .int .i64 0, .slice none 0 0, .slice none 0 0, .int .i64 0, .int .i64 0, .int .i64 0, .int .i64 0, .int .i64 0, .int .i64 0, .int .i64 0, .int .i64 0, .int .i64 0, .bool false] 37))
  have hsa : ((((w.alloc (.cells (stA kd x rs (.slice Af nf cf) (.slice Ap np cp)) 37)).alloc (.cells #[.int .i64 0, .int .i64 0, .int .i64 0, .slice none 0 0, .slice none 0 0, .int .i64 0, .int .i64 0, .int .i64 0, .int .i64 0, .int .i64 0, .int .i64 0, .int .i64 0, .int .i64 0, .int .i64 0, .bool false] 37)).alloc (.cells #[.int .i64 x.id, .int .i64 x.kind, .slice Af nf cf, .slice Ap np cp, .int .i64 x.par, .int .i64 (x.rt 0), .int .i64 (x.rt 1), .int .i64 (x.rt 2), .int .i64 (x.rt 3), .int .i64 (x.rt 4), .int .i64 (x.rt 5), .int .i64 (x.rt 6), .int .i64 (x.rt 7)] 35)).alloc (.cells #[.int .i64 kd, .int .i64 0, .int .i64 0, .slice none 0 0, .slice none 0 0, .int .i64 0, .int .i64 0, .int .i64 0, .int .i64 0, .int .i64 0, .int .i64 0, .int .i64 0, .int .i64 0, .int .i64 0, .bool false] 37)).heap.size = w.heap.size + 1 + 1 + 1 + 1 := by simp only [World.size_alloc]
  have B1 := Lib.hid b1
  have B2 := Lib.hid b2
  have B3 := Lib.hid b3
  have B4 := Lib.hid b4
  have FA := Lib.hid fA
  have HSA := Lib.hid hsa
  clear hf2 hp2 hnf hnp hcs hQ b1 b2 b3 b4 fA hsa
  go_enter Try.func9, Try.ntmps9
  go_upto_region 3 with fail
  generalize (((w.alloc (.cells (stA kd x rs (.slice Af nf cf) (.slice Ap np cp)) 37)).alloc (.cells #[.int .i64 0, .int .i64 0, .int .i64 0, .slice none 0 0, .slice none 0 0, .int .i64 0, .int .i64 0, .int .i64 0, .int .i64 0, .int .i64 0, .int .i64 0, .int .i64 0, .int .i64 0, .int .i64 0, .bool false] 37)).alloc (.cells #[.int .i64 x.id, .int .i64 x.kind, .slice Af nf cf, .slice Ap np cp, .int .i64 x.par, .int .i64 (x.rt 0), .int .i64 (x.rt 1), .int .i64 (x.rt 2), .int .i64 (x.rt 3), .int .i64 (x.rt 4), .int .i64 (x.rt 5), .int .i64 (x.rt 6), .int .i64 (x.rt 7)] 35)).alloc (.cells #[.int .i64 kd, .int .i64 0, .int .i64 0, .slice none 0 0, .slice none 0 0, .int .i64 0, .int .i64 0, .int .i64 0, .int .i64 0, .int .i64 0, .int .i64 0, .int .i64 0, .int .i64 0, .int .i64 0, .bool false] 37) = wa at *
  obtain ⟨g, hg⟩ : ∃ g, g = w.heap.size := ⟨_, rfl⟩
  rw [← hg] at B1 B2 B3 B4 HSA
  try rw [← hg]
  have HG := Lib.hid hg
  clear hg
  have k0 := B1.out.cell 0
  have k14 := B1.out.cell 14
  have n0 := B3.out.cell 0
  have n1 := B3.out.cell 1
  have n2 := B3.out.cell 2
  have n3 := B3.out.cell 3
  have n4 := B3.out.cell 4
  have n5 := B3.out.cell 5
  have n6 := B3.out.cell 6
  have n7 := B3.out.cell 7
  have n8 := B3.out.cell 8
  have n9 := B3.out.cell 9
  have n10 := B3.out.cell 10
  have n11 := B3.out.cell 11
  have n12 := B3.out.cell 12
  simp at k0 k14 n0 n1 n2 n3 n4 n5 n6 n7 n8 n9 n10 n11 n12
  have y1 := B4.out.frozen 1
  have y2 := B4.out.frozen 2
  have y3 := B4.out.frozen 3
  have y4 := B4.out.frozen 4
  have y5 := B4.out.frozen 5
  have y6 := B4.out.frozen 6
  have y7 := B4.out.frozen 7
  have y8 := B4.out.frozen 8
  have y9 := B4.out.frozen 9
  have y10 := B4.out.frozen 10
  have y11 := B4.out.frozen 11
  have y12 := B4.out.frozen 12
  have y13 := B4.out.frozen 13
  have y14 := B4.out.frozen 14
  have m1 := B4.out.cell 1
  have m2 := B4.out.cell 2
  have m3 := B4.out.cell 3
  have m4 := B4.out.cell 4
  have m5 := B4.out.cell 5
  have m6 := B4.out.cell 6
  have m7 := B4.out.cell 7
  have m8 := B4.out.cell 8
  have m9 := B4.out.cell 9
  have m10 := B4.out.cell 10
  have m11 := B4.out.cell 11
  have m12 := B4.out.cell 12
  have m13 := B4.out.cell 13
  have m14 := B4.out.cell 14
  simp at m1 m2 m3 m4 m5 m6 m7 m8 m9 m10 m11 m12 m13 m14
  by_cases e5 : kd = 5
  · subst e5
    obtain rfl : cs = ⟨5, ⟨x.id, 0, 0, x.fr, [], fun _ => 0⟩, false⟩ := by
      rw [HCS.out]
      unfold cleanS
      simp
    clear HCS
    have HCL := Lib.hid (fun (wx : World) (hx : Fr wa.heap.size [] wa wx) => (by
      have FX := FA.out.trans (hx.mono (B' := w.heap.size) (L' := []) FA.out.size (by simp))
      exact iclone_any Af nf cf B x.fr wx HNF.out h1 (RF.out.fr FX hB (by simp)) (Nat.le_trans hB FX.size) : Calls Try.prog 22 #[.slice Af nf cf] wx fun e w' => ∃ A' c', e = .returned (.slice A' nf c') ∧ w'.ownsRow wx.heap.size 3 1 (.slice A' nf c') nf (x.fr.map (Value.int .i64)) ∧ Fr wx.heap.size [] wx w'))
    have SF := Lib.hid (fun (w : World) (h : Fr wa.heap.size [g + 1 + 1 + 1] wa w) => (⟨(B3.out.fr h B3.out.lt (by simp)).cell 0, (B3.out.fr h B3.out.lt (by simp)).cell 2⟩ : w.cell? ⟨g + 1 + 1, 0, none⟩ = some (.int .i64 x.id) ∧ w.cell? ⟨g + 1 + 1, 2, none⟩ = some (.slice Af nf cf)))
    have INV := Lib.hid ((Fr.refl wa.heap.size [g + 1 + 1 + 1] wa).drew)
    have IN0 := Lib.hid ((Fr.refl wa.heap.size [] wa).drew)
    go_wp2_with fail
    clear k0 k14 n0 n1 n2 n3 n4 n5 n6 n7 n8 n9 n10 n11 n12 y1 m1 y2 m2 y3 m3 y4 m4 y5 m5 y6 m6 y7 m7 y8 m8 y9 m9 y10 m10 y11 m11 y12 m12 y13 m13 y14 m14

    refine wp_region_held_drew (S := fun w => w.cell? ⟨g + 1 + 1, 0, none⟩ = some (.int .i64 x.id) ∧ w.cell? ⟨g + 1 + 1, 2, none⟩ = some (.slice Af nf cf)) (by kernel_rfl) (SF.out _ INV.out) (fun hHeld => ?_)
    refine wpAnyH_take (i := 0) (oi := { dst := some 51, op := Op.fieldAddr 35 (Operand.tmp 3) 0, type := 0, pos := "plan.go:35", after := #[], guard := none }) (v := ?_) rfl (by kernel_rfl) (by kernel_rfl) (by kernel_rfl) (fun _ _ _ h => h) (Or.inl ⟨by rfl, ?_⟩) hHeld ?_
    rotate_left
    · intro w hSw; (try dsimp only at hSw); go_simp; (try with_reducible rfl)
    simp only [Act.put, List.setIfInBounds_toArray, List.set_cons_zero, List.set_cons_succ]
    refine wpAnyH_take (i := 1) (oi := { dst := some 52, op := Op.load 3 (Operand.tmp 51), type := 3, pos := "plan.go:35", after := #[{ on := 0, ground := Ground.data }], guard := none }) (v := ?_) rfl (by kernel_rfl) (by kernel_rfl) (by kernel_rfl) (fun _ _ _ h => h) (Or.inl ⟨by rfl, ?_⟩) hHeld ?_
    rotate_left
    · intro w hSw; (try dsimp only at hSw); go_simp; (try with_reducible rfl)
    simp only [Act.put, List.setIfInBounds_toArray, List.set_cons_zero, List.set_cons_succ]
    refine wpAnyH_take (i := 2) (oi := { dst := some 53, op := Op.fieldAddr 35 (Operand.tmp 3) 2, type := 0, pos := "plan.go:35", after := #[], guard := none }) (v := ?_) rfl (by kernel_rfl) (by kernel_rfl) (by kernel_rfl) (fun _ _ _ h => h) (Or.inl ⟨by rfl, ?_⟩) hHeld ?_
    rotate_left
    · intro w hSw; (try dsimp only at hSw); go_simp; (try with_reducible rfl)
    simp only [Act.put, List.setIfInBounds_toArray, List.set_cons_zero, List.set_cons_succ]
    refine wpAnyH_take (i := 3) (oi := { dst := some 54, op := Op.load 31 (Operand.tmp 53), type := 31, pos := "plan.go:35", after := #[{ on := 2, ground := Ground.data }], guard := none }) (v := ?_) rfl (by kernel_rfl) (by kernel_rfl) (by kernel_rfl) (fun _ _ _ h => h) (Or.inl ⟨by rfl, ?_⟩) hHeld ?_
    rotate_left
    · intro w hSw; (try dsimp only at hSw); go_simp; (try with_reducible rfl)
    simp only [Act.put, List.setIfInBounds_toArray, List.set_cons_zero, List.set_cons_succ]
    refine wpAnyH_ready (rs := [4]) (by kernel_rfl) (by simp) ?_
    refine AllReadyH.cons (o := { dst := some 55, op := Op.call { callee := Callee.value (Operand.func 22), args := #[Operand.tmp 54], argTypes := #[31] }, type := 31, pos := "plan.go:35", after := #[{ on := 3, ground := Ground.data }], guard := none }) rfl (fun K hK => ?_) AllReadyH.nil
    rw [if_pos (by rfl)]
    go_simp
    refine (HCL.out _ IN0.out).mono ?_
    rintro e w' ⟨A1, c1, rfl, ho, hf⟩
    have HO := Lib.hid (ownsRow_base ho IN0.out.size)
    have IN0 := Lib.hid (IN0.out.trans (hf.mono IN0.out.size (by simp)))
    have INV := Lib.hid (INV.out.trans (hf.mono INV.out.size (by simp)))
    clear ho hf
    refine hK.out _ _ (SF.out _ INV.out) (fun hHeld => ?_)
    clear hK K
    try simp only [Act.put, List.setIfInBounds_toArray, List.set_cons_zero, List.set_cons_succ]
    refine wpAnyH_take (i := 5) (oi := { dst := some 56, op := Op.build 35 #[(0, Operand.tmp 52), (2, Operand.tmp 55)], type := 35, pos := "plan.go:35", after := #[{ on := 1, ground := Ground.data }, { on := 4, ground := Ground.data }], guard := none }) (v := ?_) rfl (by kernel_rfl) (by kernel_rfl) (by kernel_rfl) (fun _ _ _ h => h) (Or.inl ⟨by rfl, ?_⟩) hHeld ?_
    rotate_left
    · intro w hSw; (try dsimp only at hSw); go_simp; (try with_reducible rfl)
    simp only [Act.put, List.setIfInBounds_toArray, List.set_cons_zero, List.set_cons_succ]
    refine wpAnyH_take (i := 6) (oi := { dst := some 57, op := Op.fieldAddr 37 (Operand.tmp 4) 1, type := 0, pos := "plan.go:35", after := #[{ on := 0, ground := Ground.phase }, { on := 1, ground := Ground.phase }, { on := 2, ground := Ground.phase }, { on := 3, ground := Ground.phase }, { on := 4, ground := Ground.phase }, { on := 5, ground := Ground.phase }], guard := none }) (v := ?_) rfl (by kernel_rfl) (by kernel_rfl) (by kernel_rfl) (fun _ _ _ h => h) (Or.inl ⟨by rfl, ?_⟩) hHeld ?_
    rotate_left
    · intro w hSw; (try dsimp only at hSw); go_simp; (try with_reducible rfl)
    simp only [Act.put, List.setIfInBounds_toArray, List.set_cons_zero, List.set_cons_succ]
    refine wpAnyH_ready (rs := [7]) (by kernel_rfl) (by simp) ?_
    refine AllReadyH.cons (o := { dst := none, op := Op.store 35 (Operand.tmp 57) (Operand.tmp 56), type := 0, pos := "plan.go:35", after := #[{ on := 6, ground := Ground.data }, { on := 5, ground := Ground.data }, { on := 4, ground := Ground.chain }, { on := 0, ground := Ground.phase }, { on := 1, ground := Ground.phase }, { on := 2, ground := Ground.phase }, { on := 3, ground := Ground.phase }, { on := 4, ground := Ground.phase }, { on := 5, ground := Ground.phase }], guard := none }) rfl (fun K hK => ?_) AllReadyH.nil
    rw [if_pos (by rfl)]
    have B4' := B4.out.fr IN0.out B4.out.lt (by simp)
    have y1 := B4'.frozen 1
    have y2 := B4'.frozen 2
    have y3 := B4'.frozen 3
    have y4 := B4'.frozen 4
    have y5 := B4'.frozen 5
    have y6 := B4'.frozen 6
    have y7 := B4'.frozen 7
    have y8 := B4'.frozen 8
    have y9 := B4'.frozen 9
    have y10 := B4'.frozen 10
    have y11 := B4'.frozen 11
    have y12 := B4'.frozen 12
    have y13 := B4'.frozen 13
    have m1 := B4'.cell 1
    have m2 := B4'.cell 2
    have m3 := B4'.cell 3
    have m4 := B4'.cell 4
    have m5 := B4'.cell 5
    have m6 := B4'.cell 6
    have m7 := B4'.cell 7
    have m8 := B4'.cell 8
    have m9 := B4'.cell 9
    have m10 := B4'.cell 10
    have m11 := B4'.cell 11
    have m12 := B4'.cell 12
    have m13 := B4'.cell 13
    simp at m1 m2 m3 m4 m5 m6 m7 m8 m9 m10 m11 m12 m13
    go_simp
    have INS := Lib.hid (fr_setL (g := g + 1 + 1 + 1) (.inr (by simp)) ([.int .i64 x.id, .int .i64 0, (.slice A1 nf c1), (.slice none 0 0), .int .i64 0, .int .i64 0, .int .i64 0, .int .i64 0, .int .i64 0, .int .i64 0, .int .i64 0, .int .i64 0, .int .i64 0]) 1 INV.out)
    have INV := INS
    clear y1 m1 y2 m2 y3 m3 y4 m4 y5 m5 y6 m6 y7 m7 y8 m8 y9 m9 y10 m10 y11 m11 y12 m12 y13 m13
    refine hK.out _ _ (SF.out _ INV.out) (fun hHeld => ?_)
    clear hK K
    try simp only [Act.put, List.setIfInBounds_toArray, List.set_cons_zero, List.set_cons_succ]
    refine wpAnyH_done (by kernel_rfl) ?_ _
    have B45 := Lib.hid (B4.out.fr IN0.out B4.out.lt (by simp))
    have B25 := Lib.hid (B2.out.fr IN0.out B2.out.lt (by simp))
    have F5 := Lib.hid (FA.out.trans (IN0.out.mono (B' := w.heap.size) (L' := []) FA.out.size (by simp)))
    clear INV INS SF hHeld HCL
    go_upto_region 15 with fail
    generalize hwz : World.setCell _ _ _ = wz
    have d4 := blk_setL ([.int .i64 x.id, .int .i64 0, (.slice A1 nf c1), (.slice none 0 0), .int .i64 0, .int .i64 0, .int .i64 0, .int .i64 0, .int .i64 0, .int .i64 0, .int .i64 0, .int .i64 0, .int .i64 0]) 1 B45.out
    simp only [putL, List.setIfInBounds_toArray, List.set_cons_succ, List.set_cons_zero, Nat.reduceAdd] at d4
    have d2 := far_setL (g := g + 1 + 1 + 1) (by omega) ([.int .i64 x.id, .int .i64 0, (.slice A1 nf c1), (.slice none 0 0), .int .i64 0, .int .i64 0, .int .i64 0, .int .i64 0, .int .i64 0, .int .i64 0, .int .i64 0, .int .i64 0, .int .i64 0]) 1 B25.out
    have fz := fr_setL (g := g + 1 + 1 + 1) (.inl (by have := HG.out; omega)) ([.int .i64 x.id, .int .i64 0, (.slice A1 nf c1), (.slice none 0 0), .int .i64 0, .int .i64 0, .int .i64 0, .int .i64 0, .int .i64 0, .int .i64 0, .int .i64 0, .int .i64 0, .int .i64 0]) 1 F5.out
    have fs := fr_setL (g := g + 1 + 1 + 1) (.inr (by simp)) ([.int .i64 x.id, .int .i64 0, (.slice A1 nf c1), (.slice none 0 0), .int .i64 0, .int .i64 0, .int .i64 0, .int .i64 0, .int .i64 0, .int .i64 0, .int .i64 0, .int .i64 0, .int .i64 0]) 1 (Fr.refl w'.heap.size [g + 1 + 1 + 1] w')
    have D4 := Lib.hid (by rw [← hwz]; exact d4 : Blk wz (g + 1 + 1 + 1) 37 _)
    have D2 := Lib.hid (by rw [← hwz]; exact d2 : Blk wz (g + 1) 37 _)
    have FZ := Lib.hid (by rw [← hwz]; exact fz : Fr w.heap.size [] w wz)
    have FS := Lib.hid (by rw [← hwz]; exact fs : Fr w'.heap.size [g + 1 + 1 + 1] w' wz)
    clear hwz d4 d2 fz fs
    have OWN := Lib.hid (ownsRow_fr HO.out FS.out (fun q hq => ⟨(HO.out.lt q hq).2, by have := (HO.out.lt q hq).1; have := HSA.out; simp; omega⟩))
    have NIN := Lib.hid (show NdIn wz wz.heap.size ((⟨x.id, 0, 0, x.fr, [], fun _ => 0⟩ : Nd), .slice A1 nf c1, .slice none 0 0) from ⟨⟨A1, c1, by rw [HNF.out], by rw [← HNF.out]; exact Reads.of_own OWN.out⟩, ⟨none, 0, rfl, Reads.none_⟩⟩)
    have FF := Lib.hid (fresh_own HO.out (b := g + 4) (by have := HSA.out; omega))
    have FP := Lib.hid (fresh_nil (g + 4))
    clear FS HO OWN IN0
    have q0 := D4.out.cell 0
    have q1 := D4.out.cell 1
    have q2 := D4.out.cell 2
    have q3 := D4.out.cell 3
    have q4 := D4.out.cell 4
    have q5 := D4.out.cell 5
    have q6 := D4.out.cell 6
    have q7 := D4.out.cell 7
    have q8 := D4.out.cell 8
    have q9 := D4.out.cell 9
    have q10 := D4.out.cell 10
    have q11 := D4.out.cell 11
    have q12 := D4.out.cell 12
    have q13 := D4.out.cell 13
    have q14 := D4.out.cell 14
    simp at q0 q1 q2 q3 q4 q5 q6 q7 q8 q9 q10 q11 q12 q13 q14
    have z0 := D2.out.frozen 0
    have z1 := D2.out.frozen 1
    have z2 := D2.out.frozen 2
    have z3 := D2.out.frozen 3
    have z4 := D2.out.frozen 4
    have z5 := D2.out.frozen 5
    have z6 := D2.out.frozen 6
    have z7 := D2.out.frozen 7
    have z8 := D2.out.frozen 8
    have z9 := D2.out.frozen 9
    have z10 := D2.out.frozen 10
    have z11 := D2.out.frozen 11
    have z12 := D2.out.frozen 12
    have z13 := D2.out.frozen 13
    have z14 := D2.out.frozen 14
    have s0 := D2.out.cell 0
    have s1 := D2.out.cell 1
    have s2 := D2.out.cell 2
    have s3 := D2.out.cell 3
    have s4 := D2.out.cell 4
    have s5 := D2.out.cell 5
    have s6 := D2.out.cell 6
    have s7 := D2.out.cell 7
    have s8 := D2.out.cell 8
    have s9 := D2.out.cell 9
    have s10 := D2.out.cell 10
    have s11 := D2.out.cell 11
    have s12 := D2.out.cell 12
    have s13 := D2.out.cell 13
    have s14 := D2.out.cell 14
    simp at s0 s1 s2 s3 s4 s5 s6 s7 s8 s9 s10 s11 s12 s13 s14
    go_wp2_with fail
    have be := blk_setL ([.int .i64 5, .int .i64 x.id, .int .i64 0, (.slice A1 nf c1), (.slice none 0 0), .int .i64 0, .int .i64 (0 : Int), .int .i64 (0 : Int), .int .i64 (0 : Int), .int .i64 (0 : Int), .int .i64 (0 : Int), .int .i64 (0 : Int), .int .i64 (0 : Int), .int .i64 (0 : Int), .bool false]) 0 D2.out
    simp only [putL, List.setIfInBounds_toArray, List.set_cons_succ, List.set_cons_zero, Nat.reduceAdd] at be
    have BE := Lib.hid be
    clear be
    have fe := fr_setL (g := g + 1) (.inr (by simp)) ([.int .i64 5, .int .i64 x.id, .int .i64 0, (.slice A1 nf c1), (.slice none 0 0), .int .i64 0, .int .i64 (0 : Int), .int .i64 (0 : Int), .int .i64 (0 : Int), .int .i64 (0 : Int), .int .i64 (0 : Int), .int .i64 (0 : Int), .int .i64 (0 : Int), .int .i64 (0 : Int), .bool false]) 0 (Fr.refl wz.heap.size [g + 1] wz)
    have FE := Lib.hid (FZ.out.trans (fe.mono (B' := w.heap.size) (L' := []) FZ.out.size (by intro k hk hlt; have := HG.out; simp at hk; omega)))
    have NE := Lib.hid ((ndin_fresh NIN.out FF.out FP.out fe (Nat.le_refl _) (by intro k hk; simp at hk; omega)).more fe.size)
    refine bodyPost_ret (results_cell_row rfl _ _ (g + 1) 37 (stV (⟨5, ⟨x.id, 0, 0, x.fr, [], fun _ => 0⟩, false⟩ : Stp) (.slice A1 nf c1) (.slice none 0 0)) (0, 0) _ rfl BE.out Try.underlying37 rfl (by kernel_rfl)) rfl (HOUT.out (.slice A1 nf c1) (.slice none 0 0) _ NE.out (fresh_le FF.out (by have := HG.out; omega)) (fresh_le FP.out (by have := HG.out; omega)) FE.out)
  · exact absurd HKD.out e5
end Go.Proofs.Ytfakgidimekikaa
