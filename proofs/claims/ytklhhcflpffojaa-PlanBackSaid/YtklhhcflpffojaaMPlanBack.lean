/- forebaylaw10.PlanBack: for every input the call returns true, and each argument reads behind it as it read before. The walk lies in the text that this one imports; here it is lifted to the given row. -/
import Derived.Test.YtklhhcflpffojaaMI
import Derived.Test.YtklhhcflpffojaaMApP
import Derived.Test.YtklhhcflpffojaaMG
import Derived.Test.YtklhhcflpffojaaMArgs
import Derived.Test.YtklhhcflpffojaaMNdA
import Derived.Deep.DeepCutAuto
namespace Go.Proofs.Ytklhhcflpffojaa
open Go.RowKit Go.Fb
set_option linter.unusedVariables false
theorem small_pb {L : List Nd} {M : List Ndm} (hr : RightG L) (h : fstN M = L) : Small M ∧ (∀ x ∈ fstN M, x.fr.length ≤ 1000 ∧ x.pg.length ≤ 1000) ∧ M.length ≤ 20 := by
  refine ⟨small_right' hr h, by rw [h]; exact right_small hr, ?_⟩
  have := hr.len
  rw [← h] at this
  simp only [fstN, List.length_map] at this
  omega
set_option maxRecDepth 100000 in
set_option maxHeartbeats 16000000 in
theorem walk_PlanBack (A : Option Addr) (n c : Nat) (M : List Ndm) (hc : n ≤ c) (hm : c ≤ maxLen) (x : Nd) (sf sp : Value) (w : World) (h : Nds w w.heap.size A n M) (hx : NdIn w w.heap.size (x, sf, sp)) :
    Calls Try.prog 4 #[.slice A n c, .agg (ndA x sf sp)] w fun e w' => e = .returned (.bool true) ∧ Below w.heap.size w w' := by
  obtain ⟨⟨Af, cf, hf1, hf2⟩, ⟨Ap, cp, hp1, hp2⟩⟩ := hx
  simp only at hf1 hp1 hf2 hp2
  subst hf1
  subst hp1
  have hin : NdIn w w.heap.size (x, .slice Af x.fr.length cf, .slice Ap x.pg.length cp) := ⟨⟨Af, cf, rfl, hf2⟩, ⟨Ap, cp, rfl, hp2⟩⟩
  obtain ⟨nf, hnf⟩ : ∃ z, z = x.fr.length := ⟨_, rfl⟩
  obtain ⟨np, hnp⟩ : ∃ z, z = x.pg.length := ⟨_, rfl⟩
  rw [← hnf, ← hnp] at hin ⊢
  obtain ⟨L, hL⟩ : ∃ L, L = fstN M := ⟨_, rfl⟩
  have HL := Lib.hid hL
  have H := Lib.hid h
  have HX := Lib.hid hin
  have HNF := Lib.hid hnf
  have HNP := Lib.hid hnp
  have BN := Lib.hid (Blk.new w 36 (ndA x (.slice Af nf cf) (.slice Ap np cp)))
  have fa := (Fr.refl w.heap.size [] w).alloc (Nat.le_refl _) (.cells (ndA x (.slice Af nf cf) (.slice Ap np cp)) 36)
  have FA := Lib.hid fa
  have HA := Lib.hid (awake10_any (w.alloc (.cells (ndA x (.slice Af nf cf) (.slice Ap np cp)) 36)))
  obtain ⟨gv, hgv⟩ : ∃ v, v = greatP L [⟨0, x, false⟩] := ⟨_, rfl⟩
  have HGV := Lib.hid hgv
  have HG := Lib.hid (fun (wx : World) (hx : Fr w.heap.size [] w wx) => (by
    have fb := (Fr.refl wx.heap.size [] wx).alloc (Nat.le_refl _) (.cells (stA 0 x false (.slice Af nf cf) (.slice Ap np cp)) 38)
    have fw := hx.trans (fb.mono (B' := w.heap.size) (L' := []) hx.size (by simp))
    have hst : Sts (wx.alloc (.cells (stA 0 x false (.slice Af nf cf) (.slice Ap np cp)) 38)) (wx.heap.size + 1) (some ⟨wx.heap.size, 0, none⟩) 1 [(⟨0, x, false⟩, .slice Af nf cf, .slice Ap np cp)] := ⟨rfl, by
      have := Reads.of_blk (size := 15) (m := 1) (Blk.new wx 38 (stA 0 x false (.slice Af nf cf) (.slice Ap np cp))) rfl
      exact this, fun m hm => by
      rw [List.mem_singleton.1 hm]
      exact (HX.out.frw fw (Nat.le_refl _) (by simp)).more (by have := hx.size; omega)⟩
    have := great10_any A (some ⟨wx.heap.size, 0, none⟩) c 1 (wx.heap.size + 1) n 1 M _ (wx.alloc (.cells (stA 0 x false (.slice Af nf cf) (.slice Ap np cp)) 38)) ((H.out.frw fw (Nat.le_refl _) (by simp)).more (by have := hx.size; omega)) (by simp) (by omega) hst (by simp [maxLen])
    rw [hgv, HL.out]
    exact this : Calls Try.prog 10 #[.slice A n c, .slice (some ⟨wx.heap.size, 0, none⟩) 1 1] (wx.alloc (.cells (stA 0 x false (.slice Af nf cf) (.slice Ap np cp)) 38)) fun e w' => e = .returned (.bool gv) ∧ Fr (wx.alloc (.cells (stA 0 x false (.slice Af nf cf) (.slice Ap np cp)) 38)).heap.size [] (wx.alloc (.cells (stA 0 x false (.slice Af nf cf) (.slice Ap np cp)) 38)) w'))
  obtain ⟨gN, hgN⟩ : ∃ g, g = w.heap.size := ⟨_, rfl⟩
  rw [← hgN] at BN
  have HGN := Lib.hid hgN
  clear hL h hin hnf hnp hf2 hp2 fa hgv hgN
  go_enter Try.func4, Try.ntmps4
  go_upto_region 1 with fail
  rw [← HGN.out]
  go_wp2_with fail
  refine HA.out.mono ?_
  rintro e w1 ⟨rfl, f1⟩
  have F1 := Lib.hid (FA.out.trans (f1.mono (B' := w.heap.size) (L' := []) FA.out.size (by simp)))
  have BN1 := Lib.hid (BN.out.fr f1 BN.out.lt (by simp))
  have HG1 := Lib.hid (HG.out w1 F1.out)
  have FB := Lib.hid (F1.out.alloc F1.out.size (.cells (stA 0 x false (.slice Af nf cf) (.slice Ap np cp)) 38))
  have BNB := Lib.hid (BN1.out.alloc (.cells (stA 0 x false (.slice Af nf cf) (.slice Ap np cp)) 38))
  clear f1 HA HG BN FA
  have q0 := BN1.out.cell 0
  have q1 := BN1.out.cell 1
  have q2 := BN1.out.cell 2
  have q3 := BN1.out.cell 3
  have q4 := BN1.out.cell 4
  have q5 := BN1.out.cell 5
  have q6 := BN1.out.cell 6
  have q7 := BN1.out.cell 7
  have q8 := BN1.out.cell 8
  have q9 := BN1.out.cell 9
  have q10 := BN1.out.cell 10
  have q11 := BN1.out.cell 11
  have q12 := BN1.out.cell 12
  simp at q0 q1 q2 q3 q4 q5 q6 q7 q8 q9 q10 q11 q12
  go_wp2_with fail
  refine HG1.out.mono ?_
  rintro e w2 ⟨rfl, f2⟩
  have F2 := Lib.hid (FB.out.trans (f2.mono (B' := w.heap.size) (L' := []) FB.out.size (by simp)))
  have BN2 := Lib.hid (BNB.out.fr f2 BNB.out.lt (by simp))
  clear f2 HG1 FB BNB BN1 F1 q0 q1 q2 q3 q4 q5 q6 q7 q8 q9 q10 q11 q12
  cases gv with
  | true =>
    go_wp2_with fail
    go_ret
    exact ⟨rfl, F2.out.below⟩
  | false => ?_
  obtain ⟨hl20, hsm, hk, hs20, hss⟩ := greatP_no (S := [(⟨0, x, false⟩, .slice Af nf cf, .slice Ap np cp)]) (by rw [← HL.out]; exact HGV.out.symm)
  have hxs := hss _ List.mem_cons_self
  simp only at hxs
  have HSM := Lib.hid hsm
  have HXS := Lib.hid hxs
  obtain ⟨cv, hcv⟩ : ∃ v, v = checkN L := ⟨_, rfl⟩
  have HCK := Lib.hid (by rw [hcv, HL.out]; exact gcheck_any A c w.heap.size n M w2 (H.out.frw F2.out (Nat.le_refl _) (by simp)) F2.out.size hsm : Calls Try.prog 17 #[.slice A n c] w2 fun e w' => e = .returned (.int .i64 cv) ∧ Fr w2.heap.size [] w2 w')
  have HCV := Lib.hid hcv
  have HL20 := Lib.hid hl20
  clear hcv hl20 hs20 hss hxs hk
  go_wp2_with fail
  refine HCK.out.mono ?_
  rintro e w3 ⟨rfl, f3⟩
  have F3 := Lib.hid (F2.out.trans (f3.mono (B' := w.heap.size) (L' := []) F2.out.size (by simp)))
  have BN3 := Lib.hid (BN2.out.fr f3 BN2.out.lt (by simp))
  clear f3 HCK F2 BN2
  by_cases hc0 : cv = 0
  case' neg =>
    have hcb := kd_ne hc0
    have hcn : (cv != 0) = true := by simpa using hc0
    clear hc0
    go_wp2_with fail
    go_ret
    exact ⟨rfl, F3.out.below⟩
  subst hc0
  have hright : RightG L := checkN_zero.1 HCV.out.symm
  have HRT := Lib.hid hright
  obtain ⟨sa, hsa⟩ : ∃ r, r = stepN L ⟨2, x, false⟩ := ⟨_, rfl⟩
  have HSA := Lib.hid hsa
  have HPS := Lib.hid (by rw [hsa, HL.out]; exact pstep_any A c w.heap.size n M ⟨2, x, false⟩ (.slice Af nf cf) (.slice Ap np cp) w3 (H.out.frw F3.out (Nat.le_refl _) (by simp)) F3.out.size hsm (HX.out.frw F3.out (Nat.le_refl _) (by simp)) HXS.out.1 HXS.out.2 (by rw [← HL.out]; exact right_small hright) : Calls Try.prog 14 #[.slice A n c, .agg (stA 2 x false (.slice Af nf cf) (.slice Ap np cp))] w3 (PStepOut sa w3))
  clear hsa hright hsm HCV
  have q0 := BN3.out.cell 0
  have q1 := BN3.out.cell 1
  have q2 := BN3.out.cell 2
  have q3 := BN3.out.cell 3
  have q4 := BN3.out.cell 4
  have q5 := BN3.out.cell 5
  have q6 := BN3.out.cell 6
  have q7 := BN3.out.cell 7
  have q8 := BN3.out.cell 8
  have q9 := BN3.out.cell 9
  have q10 := BN3.out.cell 10
  have q11 := BN3.out.cell 11
  have q12 := BN3.out.cell 12
  simp at q0 q1 q2 q3 q4 q5 q6 q7 q8 q9 q10 q11 q12
  go_wp2_with fail
  refine HPS.out.mono ?_
  intro e w4 h4
  obtain ⟨A5, c5, n5, rfl, f4, _, h4b⟩ := step_uni h4
  have H4B := Lib.hid h4b
  have F34 := Lib.hid f4
  have F4 := Lib.hid (F3.out.trans (f4.mono (B' := w.heap.size) (L' := []) F3.out.size (by simp)))
  have BN4 := Lib.hid (BN3.out.fr f4 BN3.out.lt (by simp))
  clear f4 h4 h4b HPS F3 BN3 q0 q1 q2 q3 q4 q5 q6 q7 q8 q9 q10 q11 q12
  have q0 := BN4.out.cell 0
  have q1 := BN4.out.cell 1
  have q2 := BN4.out.cell 2
  have q3 := BN4.out.cell 3
  have q4 := BN4.out.cell 4
  have q5 := BN4.out.cell 5
  have q6 := BN4.out.cell 6
  have q7 := BN4.out.cell 7
  have q8 := BN4.out.cell 8
  have q9 := BN4.out.cell 9
  have q10 := BN4.out.cell 10
  have q11 := BN4.out.cell 11
  have q12 := BN4.out.cell 12
  simp at q0 q1 q2 q3 q4 q5 q6 q7 q8 q9 q10 q11 q12
  by_cases e1 : sa.1 = 0
  case' pos =>
    obtain ⟨M5, hn5, hf5⟩ := H4B.out e1
    have hr5 : RightG sa.2 := by rw [HSA.out] at e1 ⊢; exact step_right e1
    obtain ⟨hs5, hk5, hl5⟩ := small_pb hr5 hf5
    have HPS := Lib.hid (by
      have := pstep_any A5 c5 w4.heap.size n5 M5 ⟨3, x, false⟩ (.slice Af nf cf) (.slice Ap np cp) w4 (hn5.nds (L := []) (Fr.refl _ _ _) (by simp)) (Nat.le_refl _) hs5 ((HX.out.frw F4.out (Nat.le_refl _) (by simp)).more F4.out.size) HXS.out.1 HXS.out.2 hk5
      rw [hf5, HSA.out, add_rem HRT.out (by rw [← HSA.out]; exact e1)] at this
      exact this : Calls Try.prog 14 #[.slice A5 n5 c5, .agg (stA 3 x false (.slice Af nf cf) (.slice Ap np cp))] w4 (PStepOut (0, normL L) w4))
    clear hn5 hf5 hr5 hs5 hk5 hl5
    rw [e1]
    clear e1
    go_wp2_with fail
    refine HPS.out.mono ?_
    rintro e w5 (⟨h0, _⟩ | ⟨_, A7, c7, n7, M7, rfl, hn7, hf7, f5⟩)
    case' inl => exact absurd rfl h0
    simp only at hf7
    have F5 := Lib.hid (F4.out.trans (f5.mono (B' := w.heap.size) (L' := []) F4.out.size (by simp)))
    have BN5 := Lib.hid (BN4.out.fr f5 BN4.out.lt (by simp))
    obtain ⟨hs7, hk7, hl7⟩ := small_pb (norm_right HRT.out) hf7
    have HSA5 := Lib.hid (by
      have := gsame_any A7 A c7 c w5.heap.size n7 n M7 M w5 (hn7.nds (L := []) (Fr.refl _ _ _) (by simp)) ((H.out.frw F5.out (Nat.le_refl _) (by simp)).more F5.out.size) (Nat.le_refl _) hs7 HSM.out (by rw [hn7.num]; exact hl7) (by rw [H.out.num]; exact HL20.out)
      rw [hf7, ← HL.out, same_norm] at this
      exact this : Calls Try.prog 18 #[.slice A7 n7 c7, .slice A n c] w5 fun e w' => e = .returned (.bool true) ∧ Fr w5.heap.size [] w5 w')
    clear f5 HPS F4 BN4 hn7 hf7 hs7 hk7 hl7 q0 q1 q2 q3 q4 q5 q6 q7 q8 q9 q10 q11 q12
    go_wp2_with fail
    refine HSA5.out.mono ?_
    rintro e w8 ⟨rfl, f8⟩
    have F8 := Lib.hid (F5.out.trans (f8.mono (B' := w.heap.size) (L' := []) F5.out.size (by simp)))
    have BN8 := Lib.hid (BN5.out.fr f8 BN5.out.lt (by simp))
    clear f8 HSA5 F5 BN5
    go_upto_region 10 with fail
  case' neg =>
    have hcb := kd_ne e1
    clear e1 q0 q1 q2 q3 q4 q5 q6 q7 q8 q9 q10 q11 q12
    go_upto_region 10 with fail
    have F8 := F4
    have BN8 := BN4
    clear F4 BN4
    rename World => w8
  all_goals
    clear HSA H4B F34
    have q0 := BN8.out.cell 0
    have q1 := BN8.out.cell 1
    have q2 := BN8.out.cell 2
    have q3 := BN8.out.cell 3
    have q4 := BN8.out.cell 4
    have q5 := BN8.out.cell 5
    have q6 := BN8.out.cell 6
    have q7 := BN8.out.cell 7
    have q8 := BN8.out.cell 8
    have q9 := BN8.out.cell 9
    have q10 := BN8.out.cell 10
    have q11 := BN8.out.cell 11
    have q12 := BN8.out.cell 12
    simp at q0 q1 q2 q3 q4 q5 q6 q7 q8 q9 q10 q11 q12
    have HFD := Lib.hid (find_any x.id A c w.heap.size n M w8 (H.out.frw F8.out (Nat.le_refl _) (by simp)) F8.out.size HSM.out)
    go_wp2_with fail
    refine HFD.out.mono ?_
    intro e w9 h9
    obtain ⟨x0, sf0, sp0, hx0, rfl, hin0, f9⟩ := FindOut.get h9
    obtain ⟨⟨Bf, df, kf1, kf2⟩, ⟨Bp, dp, kp1, kp2⟩⟩ := hin0
    simp only at kf1 kf2 kp1 kp2
    subst kf1
    subst kp1
    have hin1 : NdIn w9 w9.heap.size (x0, .slice Bf x0.fr.length df, .slice Bp x0.pg.length dp) := ⟨⟨Bf, df, rfl, kf2⟩, ⟨Bp, dp, rfl, kp2⟩⟩
    obtain ⟨mf, hmf⟩ : ∃ z, z = x0.fr.length := ⟨_, rfl⟩
    obtain ⟨mp, hmp⟩ : ∃ z, z = x0.pg.length := ⟨_, rfl⟩
    rw [← hmf, ← hmp] at hin1 ⊢
    have F9 := Lib.hid (F8.out.trans (f9.mono (B' := w.heap.size) (L' := []) F8.out.size (by simp)))
    have BN9 := Lib.hid (BN8.out.fr f9 BN8.out.lt (by simp))
    have HIN1 := Lib.hid hin1
    have HX0 := Lib.hid hx0
    obtain ⟨bt, hbt⟩ : ∃ b, b = (findN (M.map (fun z => z.1)) x.id).isSome := ⟨_, rfl⟩
    rw [← hbt]
    have HBT := Lib.hid hbt
    have HMF := Lib.hid hmf
    have HMP := Lib.hid hmp
    have BO := Lib.hid (Blk.new w9 36 (ndA x0 (.slice Bf mf df) (.slice Bp mp dp)))
    have fo := (Fr.refl w9.heap.size [] w9).alloc (Nat.le_refl _) (.cells (ndA x0 (.slice Bf mf df) (.slice Bp mp dp)) 36)
    have F10 := Lib.hid (F9.out.trans (fo.mono (B' := w.heap.size) (L' := []) F9.out.size (by simp)))
    have BN10 := Lib.hid (BN9.out.alloc (.cells (ndA x0 (.slice Bf mf df) (.slice Bp mp dp)) 36))
    have HIN2 := Lib.hid ((HIN1.out.frw fo (Nat.le_refl _) (by simp)).more fo.size)
    clear h9 hx0 f9 kf2 kp2 hin1 hmf hmp HFD F8 BN8 q0 q1 q2 q3 q4 q5 q6 q7 q8 q9 q10 q11 q12 hbt fo HIN1
    go_upto_region 11 with fail
    obtain ⟨gO, hgO⟩ : ∃ g, g = w9.heap.size := ⟨_, rfl⟩
    rw [← hgO] at BO ⊢
    have hON : gO ≠ gN := by have := BN9.out.lt; omega
    generalize w9.alloc (.cells (ndA x0 (.slice Bf mf df) (.slice Bp mp dp)) 36) = w10 at *
    clear hgO F9 BN9
    have q0 := BN10.out.cell 0
    have q1 := BN10.out.cell 1
    have q2 := BN10.out.cell 2
    have q3 := BN10.out.cell 3
    have q4 := BN10.out.cell 4
    have q5 := BN10.out.cell 5
    have q6 := BN10.out.cell 6
    have q7 := BN10.out.cell 7
    have q8 := BN10.out.cell 8
    have q9 := BN10.out.cell 9
    have q10 := BN10.out.cell 10
    have q11 := BN10.out.cell 11
    have q12 := BN10.out.cell 12
    simp at q0 q1 q2 q3 q4 q5 q6 q7 q8 q9 q10 q11 q12
    obtain ⟨sr, hsr⟩ : ∃ r, r = stepN L ⟨4, x, false⟩ := ⟨_, rfl⟩
    have HSR := Lib.hid hsr
    have HPS := Lib.hid (by rw [hsr, HL.out]; exact pstep_any A c w.heap.size n M ⟨4, x, false⟩ (.slice Af nf cf) (.slice Ap np cp) w10 (H.out.frw F10.out (Nat.le_refl _) (by simp)) F10.out.size HSM.out (HX.out.frw F10.out (Nat.le_refl _) (by simp)) HXS.out.1 HXS.out.2 (by rw [← HL.out]; exact right_small HRT.out) : Calls Try.prog 14 #[.slice A n c, .agg (stA 4 x false (.slice Af nf cf) (.slice Ap np cp))] w10 (PStepOut sr w10))
    clear hsr
    go_wp2_with fail
    refine HPS.out.mono ?_
    intro e w11 h11
    obtain ⟨A11, c11, n11, rfl, f11, _, h11b⟩ := step_uni h11
    have F11 := Lib.hid (F10.out.trans (f11.mono (B' := w.heap.size) (L' := []) F10.out.size (by simp)))
    have BN11 := Lib.hid (BN10.out.fr f11 BN10.out.lt (by simp))
    have BO11 := Lib.hid (BO.out.fr f11 BO.out.lt (by simp))
    have HIN3 := Lib.hid ((HIN2.out.frw f11 (Nat.le_refl _) (by simp)).more f11.size)
    by_cases e1 : sr.1 = 0
    case' neg =>
      have hcb := kd_ne e1
      have hcn : (sr.1 != 0) = true := by simpa using e1
      clear e1 f11 h11 h11b HPS q0 q1 q2 q3 q4 q5 q6 q7 q8 q9 q10 q11 q12
      go_wp2_with fail
      go_ret
      exact ⟨rfl, F11.out.below⟩
    obtain ⟨M11, hn11, hf11⟩ := h11b e1
    obtain ⟨old, ho1, ho2, ho3⟩ := route_back (r' := false) HRT.out (by rw [← HSR.out]; exact e1)
    have hr11 : RightG sr.2 := by rw [HSR.out] at e1 ⊢; exact step_right e1
    rw [← HSR.out] at ho2 ho3
    have hxo : x0 = old := by rw [HX0.out, show M.map (fun z => z.1) = L from HL.out.symm]; exact getN_some ho1
    have hbt : bt = true := by rw [HBT.out, show M.map (fun z => z.1) = L from HL.out.symm, ho1]; rfl
    subst hbt
    subst hxo
    obtain ⟨hs11, hk11, hl11⟩ := small_pb hr11 hf11
    have hosm := right_small HRT.out x0 (findN_mem ho1)
    have ND11 := Lib.hid (hn11.nds (L := []) (Fr.refl _ _ _) (by simp))
    have HPS2 := Lib.hid (by
      have := pstep_any A11 c11 w11.heap.size n11 M11 ⟨4, x0, false⟩ (.slice Bf mf df) (.slice Bp mp dp) w11 ND11.out (Nat.le_refl _) hs11 HIN3.out hosm.1 hosm.2 hk11
      rw [hf11, ho3] at this
      exact this : Calls Try.prog 14 #[.slice A11 n11 c11, .agg (stA 4 x0 false (.slice Bf mf df) (.slice Bp mp dp))] w11 (PStepOut (0, normL L) w11))
    have HFC := Lib.hid (fun (wx : World) (hx : Fr w11.heap.size [] w11 wx) => find_any x.id A11 c11 w11.heap.size n11 M11 wx (ND11.out.frw hx (Nat.le_refl _) (by simp)) hx.size hs11)
    have HG2 := Lib.hid (show getN (fstN M11) x.id = rtN x.par x.rt x0 by rw [hf11]; exact getN_some ho2)
    rw [e1]
    clear e1 f11 h11 h11b HPS hn11 hf11 ho1 ho2 ho3 hr11 hs11 hk11 hl11 hosm q0 q1 q2 q3 q4 q5 q6 q7 q8 q9 q10 q11 q12 BO BN10 F10 HIN2
    have a0 := BO11.out.cell 0
    have a1 := BO11.out.cell 1
    have a2 := BO11.out.cell 2
    have a3 := BO11.out.cell 3
    have a4 := BO11.out.cell 4
    have a5 := BO11.out.cell 5
    have a6 := BO11.out.cell 6
    have a7 := BO11.out.cell 7
    have a8 := BO11.out.cell 8
    have a9 := BO11.out.cell 9
    have a10 := BO11.out.cell 10
    have a11 := BO11.out.cell 11
    have a12 := BO11.out.cell 12
    simp at a0 a1 a2 a3 a4 a5 a6 a7 a8 a9 a10 a11 a12
    have q0 := BN11.out.cell 0
    have q1 := BN11.out.cell 1
    have q2 := BN11.out.cell 2
    have q3 := BN11.out.cell 3
    have q4 := BN11.out.cell 4
    have q5 := BN11.out.cell 5
    have q6 := BN11.out.cell 6
    have q7 := BN11.out.cell 7
    have q8 := BN11.out.cell 8
    have q9 := BN11.out.cell 9
    have q10 := BN11.out.cell 10
    have q11 := BN11.out.cell 11
    have q12 := BN11.out.cell 12
    simp at q0 q1 q2 q3 q4 q5 q6 q7 q8 q9 q10 q11 q12
    go_wp2_with fail
    refine HPS2.out.mono ?_
    rintro e w12 (⟨h0, _⟩ | ⟨_, A12, c12, n12, M12, rfl, hn12, hf12, f12⟩)
    case' inl => exact absurd rfl h0
    simp only at hf12
    have F12 := Lib.hid (F11.out.trans (f12.mono (B' := w.heap.size) (L' := []) F11.out.size (by simp)))
    have BN12 := Lib.hid (BN11.out.fr f12 BN11.out.lt (by simp))
    obtain ⟨hs12, hk12, hl12⟩ := small_pb (norm_right HRT.out) hf12
    have HN12 := Lib.hid hn12
    have HFC12 := Lib.hid (HFC.out w12 f12)
    have HSD := Lib.hid (fun (wx : World) (hx : Fr w12.heap.size [] w12 wx) => (by
      have FX := F12.out.trans (hx.mono (B' := w.heap.size) (L' := []) F12.out.size (by simp))
      have := gsame_any A12 A c12 c w12.heap.size n12 n M12 M wx (HN12.out.nds hx (by simp)) ((H.out.frw FX (Nat.le_refl _) (by simp)).more F12.out.size) hx.size hs12 HSM.out (by rw [HN12.out.num]; exact hl12) (by rw [H.out.num]; exact HL20.out)
      rw [hf12, ← HL.out, same_norm] at this
      exact this : Calls Try.prog 18 #[.slice A12 n12 c12, .slice A n c] wx fun e w' => e = .returned (.bool true) ∧ Fr wx.heap.size [] wx w'))
    clear f12 HPS2 hn12 hf12 hk12 HFC q0 q1 q2 q3 q4 q5 q6 q7 q8 q9 q10 q11 q12 BO11 F11
    have q0 := BN12.out.cell 0
    have q1 := BN12.out.cell 1
    have q2 := BN12.out.cell 2
    have q3 := BN12.out.cell 3
    have q4 := BN12.out.cell 4
    have q5 := BN12.out.cell 5
    have q6 := BN12.out.cell 6
    have q7 := BN12.out.cell 7
    have q8 := BN12.out.cell 8
    have q9 := BN12.out.cell 9
    have q10 := BN12.out.cell 10
    have q11 := BN12.out.cell 11
    have q12 := BN12.out.cell 12
    simp at q0 q1 q2 q3 q4 q5 q6 q7 q8 q9 q10 q11 q12
    go_wp2_with fail
    refine HFC12.out.mono ?_
    intro e w13 h13
    obtain ⟨x1, sf1, sp1, hx1, rfl, hin1, f13⟩ := FindOut.get h13
    obtain ⟨⟨Cf, ef, kf1, _⟩, ⟨Cp, ep, kp1, _⟩⟩ := hin1
    simp only at kf1 kp1
    subst kf1
    subst kp1
    have hx2 : x1 = rtN x.par x.rt x0 := by rw [hx1]; exact HG2.out
    have hp1 : x1.par = x.par := by rw [hx2]; rfl
    have hr1 : x1.rt = x.rt := by rw [hx2]; rfl
    obtain ⟨jf, hjf⟩ : ∃ z, z = x1.fr.length := ⟨_, rfl⟩
    obtain ⟨jp, hjp⟩ : ∃ z, z = x1.pg.length := ⟨_, rfl⟩
    rw [← hjf, ← hjp]
    rw [show ndA x1 (.slice Cf jf ef) (.slice Cp jp ep) = #[.int .i64 x1.id, .int .i64 x1.kind, .slice Cf jf ef, .slice Cp jp ep, .int .i64 x.par, .int .i64 (x.rt 0), .int .i64 (x.rt 1), .int .i64 (x.rt 2), .int .i64 (x.rt 3), .int .i64 (x.rt 4), .int .i64 (x.rt 5), .int .i64 (x.rt 6), .int .i64 (x.rt 7)] by rw [← hp1, ← hr1]]
    have F13 := Lib.hid (F12.out.trans (f13.mono (B' := w.heap.size) (L' := []) F12.out.size (by simp)))
    have fq := (Fr.refl w13.heap.size [] w13).alloc (Nat.le_refl _) (.cells #[.int .i64 x1.id, .int .i64 x1.kind, .slice Cf jf ef, .slice Cp jp ep, .int .i64 x.par, .int .i64 (x.rt 0), .int .i64 (x.rt 1), .int .i64 (x.rt 2), .int .i64 (x.rt 3), .int .i64 (x.rt 4), .int .i64 (x.rt 5), .int .i64 (x.rt 6), .int .i64 (x.rt 7)] 36)
    have F14 := Lib.hid (F13.out.trans (fq.mono (B' := w.heap.size) (L' := []) F13.out.size (by simp)))
    have F24 := f13.trans (fq.mono (B' := w12.heap.size) (L' := []) f13.size (by simp))
    have HSD4 := Lib.hid (HSD.out _ F24)
    have BN14 := Lib.hid ((BN12.out.fr f13 BN12.out.lt (by simp)).alloc (.cells #[.int .i64 x1.id, .int .i64 x1.kind, .slice Cf jf ef, .slice Cp jp ep, .int .i64 x.par, .int .i64 (x.rt 0), .int .i64 (x.rt 1), .int .i64 (x.rt 2), .int .i64 (x.rt 3), .int .i64 (x.rt 4), .int .i64 (x.rt 5), .int .i64 (x.rt 6), .int .i64 (x.rt 7)] 36))
    have BQ := Lib.hid (Blk.new w13 36 #[.int .i64 x1.id, .int .i64 x1.kind, .slice Cf jf ef, .slice Cp jp ep, .int .i64 x.par, .int .i64 (x.rt 0), .int .i64 (x.rt 1), .int .i64 (x.rt 2), .int .i64 (x.rt 3), .int .i64 (x.rt 4), .int .i64 (x.rt 5), .int .i64 (x.rt 6), .int .i64 (x.rt 7)])
    clear h13 hx1 hx2 hp1 hr1 hjf hjp f13 fq F24 HSD HFC12 q0 q1 q2 q3 q4 q5 q6 q7 q8 q9 q10 q11 q12
    go_upto_region 16 with fail
    generalize w13.alloc (.cells #[.int .i64 x1.id, .int .i64 x1.kind, .slice Cf jf ef, .slice Cp jp ep, .int .i64 x.par, .int .i64 (x.rt 0), .int .i64 (x.rt 1), .int .i64 (x.rt 2), .int .i64 (x.rt 3), .int .i64 (x.rt 4), .int .i64 (x.rt 5), .int .i64 (x.rt 6), .int .i64 (x.rt 7)] 36) = w14 at *
    generalize w13.heap.size = gQ at BQ ⊢
    have hq8 : ∀ w, (binOp .eql 34 (A8 x.rt) (A8 x.rt)).run Try.prog w = .ok (.bool true) w := fun w => by rw [eql8]; simp [rt8B]
    go_wp2_with fail
    refine HSD4.out.mono ?_
    rintro e w15 ⟨rfl, f15⟩
    have F15 := Lib.hid (F14.out.trans (f15.mono (B' := w.heap.size) (L' := []) F14.out.size (by simp)))
    have BN15 := Lib.hid (BN14.out.fr f15 BN14.out.lt (by simp))
    have BQ15 := Lib.hid (BQ.out.fr f15 BQ.out.lt (by simp))
    have a0 := BQ15.out.cell 0
    have a1 := BQ15.out.cell 1
    have a2 := BQ15.out.cell 2
    have a3 := BQ15.out.cell 3
    have a4 := BQ15.out.cell 4
    have a5 := BQ15.out.cell 5
    have a6 := BQ15.out.cell 6
    have a7 := BQ15.out.cell 7
    have a8 := BQ15.out.cell 8
    have a9 := BQ15.out.cell 9
    have a10 := BQ15.out.cell 10
    have a11 := BQ15.out.cell 11
    have a12 := BQ15.out.cell 12
    simp at a0 a1 a2 a3 a4 a5 a6 a7 a8 a9 a10 a11 a12
    have q0 := BN15.out.cell 0
    have q1 := BN15.out.cell 1
    have q2 := BN15.out.cell 2
    have q3 := BN15.out.cell 3
    have q4 := BN15.out.cell 4
    have q5 := BN15.out.cell 5
    have q6 := BN15.out.cell 6
    have q7 := BN15.out.cell 7
    have q8 := BN15.out.cell 8
    have q9 := BN15.out.cell 9
    have q10 := BN15.out.cell 10
    have q11 := BN15.out.cell 11
    have q12 := BN15.out.cell 12
    simp at q0 q1 q2 q3 q4 q5 q6 q7 q8 q9 q10 q11 q12
    go_wp2_with fail
    go_ret
    exact ⟨by simp, F15.out.below⟩
end Go.Proofs.Ytklhhcflpffojaa
namespace Go.Proofs.Ytklhhcflpffojaa
open Go.ChangeShapes Go.WideShapes Go.ChangeAt Go.RowKit Go.Fb
set_option linter.unusedVariables false

set_option maxRecDepth 100000 in
theorem lifted_PlanBack (os : Os) (started : os.Started) (H : Type) (enc : TypeId × Value → H) :
    ReturnsInHanded {} Try.checked os 4 .any (Rows.planBackSpec.pre6 enc Try.prog Try.f4 Rows.planBackRow.domain false) (Rows.planBackSpec.post enc Try.prog Try.f4 false true false false) := by
  refine returnsInHanded_of_change (C := Try.checked) (show ownKnob Try.prog.godebug = none by kernel_rfl) started (by kernel_rfl) Try.func4
    (ChangeSpec.witness6 (enc := enc) (C := Try.checked) false ⟨#[], #[.slice none 0 0, .agg #[.int .i64 0, .int .i64 0, .slice none 0 0, .slice none 0 0, .int .i64 0, .int .i64 0, .int .i64 0, .int .i64 0, .int .i64 0, .int .i64 0, .int .i64 0, .int .i64 0, .int .i64 0]], []⟩ 8 (by kernel_rfl) (by kernel_rfl) (by kernel_rfl) (by kernel_rfl)) ?_
  intro W base args ds gs before hval0 hW hcnd _
  have hval : ∀ (j : Nat) t v, Try.f4.params[j]? = some t → args[j]? = some v → Value.okWide Try.prog W .any base t v := hval0
  have hW' := hW
  obtain ⟨p, q, hA0, hV, rfl, hfz, hnd⟩ := hW
  have hA : DataW.TrodAll enc Try.prog W 0 (fun _ => true) true Try.f4.params.toList args.toList ds p := hA0
  rw [Try.params4] at hA hval
  obtain ⟨v0, vs0, d0, ds0, p0, q0, hargs, rfl, rfl, h0, r0'⟩ := trodAll_cons hA
  obtain ⟨v1, vs1, d1, ds1, p1, q1, rfl, rfl, rfl, h1, r1'⟩ := trodAll_cons r0'
  obtain ⟨rfl, rfl, rfl⟩ := trodAll_nil r1'
  obtain rfl : args = #[v0, v1] := by cases args; simp_all
  obtain ⟨rfl, rfl⟩ := trodVars_none hV
  have k0 := h0
  have lt0 : ∀ x ∈ p0, x.block < W.heap.size := by obtain ⟨m, hm⟩ := k0; exact DataW.trod_lt m _ _ _ hm
  have k1 := h1
  have lt1 : ∀ x ∈ p1, x.block < W.heap.size := by obtain ⟨m, hm⟩ := k1; exact DataW.trod_lt m _ _ _ hm
  obtain ⟨A0, n0, c0, M0, rfl, l0, m0, r0, wf0⟩ := arg_nodes (hval 0 22 v0 rfl rfl) h0
  obtain ⟨x1, sf1, sp1, rfl, r1⟩ := arg_nd (hval 1 36 v1 rfl rfl) h1
  clear hA0 hval0
  refine (walk_PlanBack A0 n0 c0 M0 l0 m0 x1 sf1 sp1 W r0 r1).mono fun e W' ⟨he, bel⟩ => ?_
  subst he
  exact ⟨_, rfl, _, _, _, [], _, [], hW', trodAll_mk1 (shut_bool Try.underlying4 _), (trodAll_cons_mk (Below.trod (show laidOutB Try.prog = true by kernel_rfl) (by kernel_rfl) (of_decide_eq_true (by kernel_rfl)) k0 bel lt0) (trodAll_cons_mk (Below.trod (show laidOutB Try.prog = true by kernel_rfl) (by kernel_rfl) (of_decide_eq_true (by kernel_rfl)) k1 bel lt1) trodAll_mk0)), rfl, bel.frame _, fun h => by cases h⟩

theorem PlanBack_holds : Rows.PlanBackSaid :=
  OpenClaim.holds_of_wide 4 Try.f4 rfl rfl rfl rfl rfl rfl rfl ⟨rfl, rfl, rfl, rfl, rfl⟩ rfl rfl rfl rfl rfl (by kernel_rfl) Try.func4 (by kernel_rfl)
    (of_decide_eq_true (by kernel_rfl)) (by unfold Func.isWrapper; first | (rw [if_pos (by decide +kernel)]; kernel_rfl) | (rw [if_neg (by decide +kernel)]; exact ⟨rfl, rfl⟩))
    (fun os started H enc _ => lifted_PlanBack os started H enc)
#print axioms PlanBack_holds
end Go.Proofs.Ytklhhcflpffojaa
