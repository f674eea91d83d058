/- forebaylaw10.PlanSteps: for every input the call returns true, and each argument reads behind it as it read before. The walk lies in the text that this one imports; here it is lifted to the given row. -/
import Derived.Test.YtklhhcflpffojaaMI
import Derived.Test.YtklhhcflpffojaaMApP
import Derived.Test.YtklhhcflpffojaaMA
import Derived.Test.YtklhhcflpffojaaMG
import Derived.Test.YtklhhcflpffojaaMArgs
import Derived.Test.YtklhhcflpffojaaMStsA
import Derived.Deep.DeepCutAuto
namespace Go.Proofs.Ytklhhcflpffojaa
open Go.RowKit Go.Fb
set_option linter.unusedVariables false
set_option maxRecDepth 100000 in
set_option maxHeartbeats 16000000 in
theorem walk_PlanSteps (A : Option Addr) (n c : Nat) (M : List Ndm) (hc : n ≤ c) (hm : c ≤ maxLen) (A2 : Option Addr) (n2 c2 : Nat) (S : List Stm) (hc2 : n2 ≤ c2) (hm2 : c2 ≤ maxLen) (w : World) (h : Nds w w.heap.size A n M) (hcap : CapN M) (hS : Sts w w.heap.size A2 n2 S) (hcs : ∀ m ∈ S, ∀ A n c, m.2.1 = .slice A n c → n ≤ c) :
    Calls Try.prog 7 #[.slice A n c, .slice A2 n2 c2] w fun e w' => e = .returned (.bool true) ∧ Below w.heap.size w w' := by
  obtain ⟨L, hL⟩ : ∃ L, L = fstN M := ⟨_, rfl⟩
  obtain ⟨P, hP⟩ : ∃ P, P = fstS S := ⟨_, rfl⟩
  obtain ⟨gv, hgv⟩ : ∃ v, v = greatP L P := ⟨_, rfl⟩
  have HG := Lib.hid (fun (wx : World) (hx : Fr w.heap.size [] w wx) => (by rw [hgv, hL, hP]; exact great10_any A A2 c c2 w.heap.size n n2 M S wx (h.frw hx (Nat.le_refl _) (by simp)) hx.size (by omega) (hS.frw hx (Nat.le_refl _) (by simp)) (by omega) : Calls Try.prog 10 #[.slice A n c, .slice A2 n2 c2] wx fun e w' => e = .returned (.bool gv) ∧ Fr wx.heap.size [] wx w'))
  have HA := Lib.hid (awake10_any w)
  have HL := Lib.hid hL
  have HP := Lib.hid hP
  have HGV := Lib.hid hgv
  have H := Lib.hid h
  have HST := Lib.hid hS
  have HCP := Lib.hid hcap
  have HCS := Lib.hid hcs
  have HNU := Lib.hid hS.num
  clear hL hP hgv h hS hcap hcs
  go_enter Try.func7, Try.ntmps7
  go_wp2_with fail
  refine HA.out.mono ?_
  rintro e w1 ⟨rfl, f1⟩
  have F1 := Lib.hid f1
  have HG1 := Lib.hid (HG.out w1 f1)
  clear f1 HA HG
  go_wp2_with fail
  refine HG1.out.mono ?_
  rintro e w2 ⟨rfl, f2⟩
  have F2 := Lib.hid (F1.out.trans (f2.mono (B' := w.heap.size) (L' := []) F1.out.size (by simp)))
  clear f2 HG1 F1
  cases gv with
  | true =>
    go_wp2_with fail
    go_ret
    exact ⟨rfl, F2.out.below⟩
  | false => ?_
  obtain ⟨hl20, hsm, hk, hs20, hss⟩ := greatP_no (by rw [← HL.out, ← HP.out]; exact HGV.out.symm)
  have HSM := Lib.hid hsm
  have HK := Lib.hid hk
  have HSS := Lib.hid hss
  have hn2 : n2 ≤ 20 := by rw [HNU.out]; exact hs20
  by_cases hn21 : n2 < 1
  · obtain rfl : n2 = 0 := by omega
    go_wp2_with fail
    go_ret
    exact ⟨rfl, F2.out.below⟩
  have hka : ¬ ((n2 : Int) < 1) := by omega
  by_cases hn26 : 6 < n2
  · have hkb : ((6 : Int) < (n2 : Int)) := by omega
    go_wp2_with fail
    go_ret
    exact ⟨rfl, F2.out.below⟩
  have hkb : ¬ ((6 : Int) < (n2 : Int)) := by omega
  obtain ⟨cv, hcv⟩ : ∃ v, v = checkN L := ⟨_, rfl⟩
  have HCK := Lib.hid (by rw [hcv, HL.out]; exact gcheck_any A c w.heap.size n M w2 (H.out.frw F2.out (Nat.le_refl _) (by simp)) F2.out.size hsm : Calls Try.prog 17 #[.slice A n c] w2 fun e w' => e = .returned (.int .i64 cv) ∧ Fr w2.heap.size [] w2 w')
  have HCV := Lib.hid hcv
  clear hcv
  go_wp2_with fail
  refine HCK.out.mono ?_
  rintro e w2b ⟨rfl, f2⟩
  have F2b := Lib.hid (F2.out.trans (f2.mono (B' := w.heap.size) (L' := []) F2.out.size (by simp)))
  clear f2 HCK F2
  by_cases hc0 : cv = 0
  case' neg =>
    have hcb := kd_ne hc0
    have hcn : (cv != 0) = true := by simpa using hc0
    clear hc0
    go_wp2_with fail
    go_ret
    exact ⟨rfl, F2b.out.below⟩
  subst hc0
  have hright : RightG L := checkN_zero.1 HCV.out.symm
  obtain ⟨ra, hra⟩ : ∃ r, r = applyN L P := ⟨_, rfl⟩
  have HAP := Lib.hid (by rw [hra, HL.out, HP.out]; exact papply_any A A2 c c2 w.heap.size n n2 M S w2b (H.out.frw F2b.out (Nat.le_refl _) (by simp)) F2b.out.size hsm (HST.out.frw F2b.out (Nat.le_refl _) (by simp)) hss (by omega) : Calls Try.prog 11 #[.slice A n c, .slice A2 n2 c2] w2b (ApOut ra w2b))
  have hpl : P.length = n2 := by rw [HP.out, HNU.out]; simp [fstS]
  have HGO := Lib.hid (show ra = goN 0 L P by rw [hra]; unfold applyN; rw [if_neg (by rw [← HCV.out]; simp), if_neg (by rw [hpl]; omega)])
  have HRA := Lib.hid hra
  have HPL := Lib.hid hpl
  clear hra hpl hl20 hsm hk hs20 hss
  go_wp2_with fail
  refine HAP.out.mono ?_
  intro e w3 h3
  obtain ⟨A3, c3, n3, rfl, f3, h3a, h3b⟩ := apply_uni HRA.out h3
  have H3A := Lib.hid h3a
  have H3B := Lib.hid h3b
  have F3 := Lib.hid (F2b.out.trans (f3.mono (B' := w.heap.size) (L' := []) F2b.out.size (by simp)))
  have F23 := Lib.hid f3
  have J0 := Lib.hid (show GoJ L P A c n w3 w3 0 A n c M from ⟨Fr.refl _ _ _, ((H.out.frw F3.out (Nat.le_refl _) (by simp)).more F3.out.size), by rw [← HL.out]; exact hright, by rw [← HL.out]; rfl, fun h => absurd h (by omega)⟩)
  obtain ⟨a1, hq1⟩ : ∃ a, a = ra.1 := ⟨_, rfl⟩
  obtain ⟨a2, hq2⟩ : ∃ a, a = ra.2.1 := ⟨_, rfl⟩
  have HQ1 := Lib.hid hq1
  have HQ2 := Lib.hid hq2
  rw [← hq1, ← hq2]
  rw [← hq1] at H3A H3B
  clear f3 h3 h3a h3b HAP hq1 hq2 hright HCV
  go_wp2_with fail
  go_loopg [0, 9, 41] n2 (fun g s0 s9 s41 wr => ∃ (k : Nat) (Al : Option Addr) (nl cl : Nat) (Ml : List Ndm), k ≤ n2 ∧ g = n2 - k ∧ s41 = .int .i64 k ∧ (s9 = undef ∨ ∃ a, s9 = .pointer a) ∧ s0 = .slice Al nl cl ∧ RowKit.Hid (GoJ L P A c n w3 wr k Al nl cl Ml))
  case atStart => exact ⟨0, A, n, c, M, Nat.zero_le _, rfl, rfl, .inl rfl, rfl, J0⟩
  case round =>
    clear J0
    obtain ⟨k, Al, nl, cl, Ml, hk, rfl, rfl, h8, rfl, J⟩ := hrel
    by_cases hkn : k < n2
    · have hki : (k : Int) < (n2 : Int) := by omega
      have hk0 : (0 : Int) ≤ (k : Int) := by omega
      obtain ⟨m, hx⟩ : ∃ m, S[k]? = some m := ⟨_, List.getElem?_eq_getElem (by rw [← HNU.out]; exact hkn)⟩
      have FR := F3.out.trans (J.out.fr.mono (B' := w.heap.size) (L' := []) F3.out.size (by simp))
      have HSW := HST.out.frw FR (Nat.le_refl _) (by simp)
      obtain ⟨bq, oq, hAq, hbq, hc1⟩ := HSW.get hx
      have hin := HSW.inn m (List.mem_of_getElem? hx)
      have hsm := HSS.out m (List.mem_of_getElem? hx)
      have HPK := Lib.hid (show P[k]? = some m.1 by rw [HP.out]; simp [fstS, hx])
      subst hAq
      obtain ⟨⟨kd, y, rs⟩, sf, sp⟩ := m
      simp only at hin hsm HPK
      obtain ⟨⟨Af, cf, hf1, hf2⟩, ⟨Ap, cp, hp1, hp2⟩⟩ := hin
      simp only at hf1 hp1 hf2 hp2
      subst hf1
      subst hp1
      have hin2 : NdIn wr w.heap.size (y, .slice Af y.fr.length cf, .slice Ap y.pg.length cp) := ⟨⟨Af, cf, rfl, hf2⟩, ⟨Ap, cp, rfl, hp2⟩⟩
      clear hf2 hp2
      obtain ⟨nf, hnf⟩ : ∃ z, z = y.fr.length := ⟨_, rfl⟩
      obtain ⟨np, hnp⟩ : ∃ z, z = y.pg.length := ⟨_, rfl⟩
      rw [← hnf, ← hnp] at hin2 hc1
      have p0 := hc1 0 (.int .i64 kd) rfl
      have p1 := hc1 1 (.int .i64 y.id) rfl
      have p2 := hc1 2 (.int .i64 y.kind) rfl
      have p3 := hc1 3 (.slice Af nf cf) rfl
      have p4 := hc1 4 (.slice Ap np cp) rfl
      have p5 := hc1 5 (.int .i64 y.par) rfl
      have p6 := hc1 6 (.int .i64 (y.rt 0)) rfl
      have p7 := hc1 7 (.int .i64 (y.rt 1)) rfl
      have p8 := hc1 8 (.int .i64 (y.rt 2)) rfl
      have p9 := hc1 9 (.int .i64 (y.rt 3)) rfl
      have p10 := hc1 10 (.int .i64 (y.rt 4)) rfl
      have p11 := hc1 11 (.int .i64 (y.rt 5)) rfl
      have p12 := hc1 12 (.int .i64 (y.rt 6)) rfl
      have p13 := hc1 13 (.int .i64 (y.rt 7)) rfl
      have p14 := hc1 14 (.bool rs) rfl
      simp only [Nat.add_zero] at p0
      have HSMS := Lib.hid hsm
      have BX := Lib.hid (Blk.new wr 38 (stA kd y rs (.slice Af nf cf) (.slice Ap np cp)))
      have fa := (Fr.refl wr.heap.size [] wr).alloc (Nat.le_refl _) (.cells (stA kd y rs (.slice Af nf cf) (.slice Ap np cp)) 38)
      have HFA := Lib.hid fa
      have HIA := Lib.hid (hin2.frw fa FR.size (by simp))
      have FRS := FR.size
      obtain ⟨sr, hsr⟩ : ∃ sr, sr = stepN (fstN Ml) ⟨kd, y, rs⟩ := ⟨_, rfl⟩
      have HPS := Lib.hid (by rw [hsr]; exact pstep_any Al cl wr.heap.size nl Ml ⟨kd, y, rs⟩ (.slice Af nf cf) (.slice Ap np cp) (wr.alloc (.cells (stA kd y rs (.slice Af nf cf) (.slice Ap np cp)) 38)) (J.out.nds.frw fa (Nat.le_refl _) (by simp)) fa.size (small_right J.out.rt) (HIA.out.more FRS) HSMS.out.1 HSMS.out.2 (right_small J.out.rt) : Calls Try.prog 14 #[.slice Al nl cl, .agg (stA kd y rs (.slice Af nf cf) (.slice Ap np cp))] (wr.alloc (.cells (stA kd y rs (.slice Af nf cf) (.slice Ap np cp)) 38)) (PStepOut sr (wr.alloc (.cells (stA kd y rs (.slice Af nf cf) (.slice Ap np cp)) 38))))
      have HSR := Lib.hid hsr
      clear hsr fa hc1 hx HSW hsm hin2 hnf hnp FR hbq
      go_upto_region 9 with fail
      clear p0 p1 p2 p3 p4 p5 p6 p7 p8 p9 p10 p11 p12 p13 p14
      generalize wr.alloc (.cells (stA kd y rs (.slice Af nf cf) (.slice Ap np cp)) 38) = wa at *
      generalize wr.heap.size = gx at BX
      have q0 := BX.out.cell 0
      have q1 := BX.out.cell 1
      have q2 := BX.out.cell 2
      have q3 := BX.out.cell 3
      have q4 := BX.out.cell 4
      have q5 := BX.out.cell 5
      have q6 := BX.out.cell 6
      have q7 := BX.out.cell 7
      have q8 := BX.out.cell 8
      have q9 := BX.out.cell 9
      have q10 := BX.out.cell 10
      have q11 := BX.out.cell 11
      have q12 := BX.out.cell 12
      have q13 := BX.out.cell 13
      have q14 := BX.out.cell 14
      simp at q0 q1 q2 q3 q4 q5 q6 q7 q8 q9 q10 q11 q12 q13 q14
      go_wp2_with fail
      refine HPS.out.mono ?_
      intro e w6 h6
      obtain ⟨A6, c6, n6, rfl, f6, h6a, h6b⟩ := step_uni h6
      have HF6 := Lib.hid (HFA.out.trans (f6.mono (B' := wr.heap.size) (L' := []) HFA.out.size (by simp)))
      by_cases e1 : sr.1 = 0
      · obtain ⟨M6, hn6, hf6⟩ := h6b e1
        have J2 := Lib.hid (J.out.next HPK.out (by rw [← HSR.out]; exact e1) (hn6.low HFA.out.size) (by rw [hf6, HSR.out]) HF6.out)
        have E1 := Lib.hid e1
        rw [e1]
        clear hn6 hf6 f6 h6 h6a h6b HPS HFA HF6 J e1 BX q0 q1 q2 q3 q4 q5 q6 q7 q8 q9 q10 q11 q12 q13 q14
        go_wp2_with fail
        go_roundg (n2 - (k + 1))
        case measure => omega
        case rel => exact ⟨k + 1, A6, n6, c6, M6, by omega, rfl, by go_num, .inr ⟨_, rfl⟩, rfl, J2⟩
      · have hgo := HGO.out
        rw [J.out.stop HPK.out (by rw [← HSR.out]; exact e1), ← HSR.out] at hgo
        have hs1 : sr.1 = a1 := by rw [HQ1.out, hgo]
        have hs2 : a2 = k + 1 := by rw [HQ2.out, hgo]
        obtain ⟨hn30, _, _⟩ := H3A.out (by rw [← hs1]; exact e1)
        have hcb := kd_ne e1
        have hcn : (sr.1 != 0) = true := by simpa using e1
        have FR := F3.out.trans ((J.out.fr.trans (HF6.out.mono (B' := w3.heap.size) (L' := []) J.out.fr.size (by simp))).mono (B' := w.heap.size) (L' := []) F3.out.size (by simp))
        have FRR := Lib.hid FR
        have hwk : IntKind.i64.wrap ((k : Int) + 1) = (k : Int) + 1 := by rw [IntKind.wrap_i64]; omega
        rw [hs1] at hcb hcn ⊢
        subst hs2
        subst hn30
        clear FR hgo hs1 f6 h6 h6a h6b HPS HFA HF6 J e1 BX q0 q1 q2 q3 q4 q5 q6 q7 q8 q9 q10 q11 q12 q13 q14
        go_wp2_with fail
        go_ret
        exact ⟨by simp, FRR.out.below⟩
    · obtain rfl : k = n2 := by omega
      have hgo := HGO.out
      rw [J.out.go, List.drop_eq_nil_of_le (by rw [HPL.out]; exact Nat.le_refl _)] at hgo
      have ha1 : a1 = 0 := by rw [HQ1.out, hgo]; rfl
      have ha2 : a2 = 0 := by rw [HQ2.out, hgo]; rfl
      obtain ⟨_, M3, hn3, hf3, hr3⟩ := H3B.out ha1
      have hfe : fstN M3 = fstN Ml := by rw [hf3, hgo]; rfl
      have FR := Lib.hid (F3.out.trans (J.out.fr.mono (B' := w.heap.size) (L' := []) F3.out.size (by simp)))
      have hl3 : n3 ≤ 20 := by
        have := hr3.len
        rw [← hf3] at this
        simp only [fstN, List.length_map] at this
        rw [hn3.num]; omega
      have hll : nl ≤ 20 := by
        have := J.out.rt.len
        simp only [fstN, List.length_map] at this
        rw [J.out.nds.num]; omega
      have HSA := Lib.hid (by
        have := gsame_any A3 Al c3 cl wr.heap.size n3 nl M3 Ml wr ((hn3.nds J.out.fr (by simp)).more J.out.fr.size) J.out.nds (Nat.le_refl _) (small_right' hr3 hf3) (small_right J.out.rt) hl3 hll
        rw [hfe, sameL_self] at this
        exact this : Calls Try.prog 18 #[.slice A3 n3 c3, .slice Al nl cl] wr fun e w' => e = .returned (.bool true) ∧ Fr wr.heap.size [] wr w')
      subst ha1
      subst ha2
      clear hgo hn3 hf3 hr3 hfe hl3 hll J H3A H3B
      go_wp2_with fail
      refine HSA.out.mono ?_
      rintro e w6 ⟨rfl, f6⟩
      have F6 := Lib.hid (FR.out.trans (f6.mono (B' := w.heap.size) (L' := []) FR.out.size (by simp)))
      clear f6 HSA FR
      go_wp2_with fail
      go_ret
      exact ⟨rfl, F6.out.below⟩
end Go.Proofs.Ytklhhcflpffojaa
namespace Go.Proofs.Ytklhhcflpffojaa
open Go.ChangeShapes Go.WideShapes Go.ChangeAt Go.RowKit Go.Fb
set_option linter.unusedVariables false

set_option maxRecDepth 100000 in
theorem lifted_PlanSteps (os : Os) (started : os.Started) (H : Type) (enc : TypeId × Value → H) :
    ReturnsInHanded {} Try.checked os 7 .any (Rows.planStepsSpec.pre6 enc Try.prog Try.f7 Rows.planStepsRow.domain false) (Rows.planStepsSpec.post enc Try.prog Try.f7 false true false false) := by
  refine returnsInHanded_of_change (C := Try.checked) (show ownKnob Try.prog.godebug = none by kernel_rfl) started (by kernel_rfl) Try.func7
    (ChangeSpec.witness6 (enc := enc) (C := Try.checked) false ⟨#[], #[.slice none 0 0, .slice none 0 0], []⟩ 8 (by kernel_rfl) (by kernel_rfl) (by kernel_rfl) (by kernel_rfl)) ?_
  intro W base args ds gs before hval0 hW hcnd _
  have hval : ∀ (j : Nat) t v, Try.f7.params[j]? = some t → args[j]? = some v → Value.okWide Try.prog W .any base t v := hval0
  have hW' := hW
  obtain ⟨p, q, hA0, hV, rfl, hfz, hnd⟩ := hW
  have hA : DataW.TrodAll enc Try.prog W 0 (fun _ => true) true Try.f7.params.toList args.toList ds p := hA0
  rw [Try.params7] at hA hval
  obtain ⟨v0, vs0, d0, ds0, p0, q0, hargs, rfl, rfl, h0, r0'⟩ := trodAll_cons hA
  obtain ⟨v1, vs1, d1, ds1, p1, q1, rfl, rfl, rfl, h1, r1'⟩ := trodAll_cons r0'
  obtain ⟨rfl, rfl, rfl⟩ := trodAll_nil r1'
  obtain rfl : args = #[v0, v1] := by cases args; simp_all
  obtain ⟨rfl, rfl⟩ := trodVars_none hV
  have k0 := h0
  have lt0 : ∀ x ∈ p0, x.block < W.heap.size := by obtain ⟨m, hm⟩ := k0; exact DataW.trod_lt m _ _ _ hm
  have k1 := h1
  have lt1 : ∀ x ∈ p1, x.block < W.heap.size := by obtain ⟨m, hm⟩ := k1; exact DataW.trod_lt m _ _ _ hm
  obtain ⟨A0, n0, c0, M0, rfl, l0, m0, r0, wf0⟩ := arg_nodes (hval 0 22 v0 rfl rfl) h0
  obtain ⟨A1, n1, c1, M1, rfl, l1, m1, r1, wf1⟩ := arg_steps (hval 1 23 v1 rfl rfl) h1
  clear hA0 hval0
  refine (walk_PlanSteps A0 n0 c0 M0 l0 m0 A1 n1 c1 M1 l1 m1 W r0 wf0.cap r1 wf1.cap).mono fun e W' ⟨he, bel⟩ => ?_
  subst he
  exact ⟨_, rfl, _, _, _, [], _, [], hW', trodAll_mk1 (shut_bool Try.underlying4 _), (trodAll_cons_mk (Below.trod (show laidOutB Try.prog = true by kernel_rfl) (by kernel_rfl) (of_decide_eq_true (by kernel_rfl)) k0 bel lt0) (trodAll_cons_mk (Below.trod (show laidOutB Try.prog = true by kernel_rfl) (by kernel_rfl) (of_decide_eq_true (by kernel_rfl)) k1 bel lt1) trodAll_mk0)), rfl, bel.frame _, fun h => by cases h⟩

theorem PlanSteps_holds : Rows.PlanStepsSaid :=
  OpenClaim.holds_of_wide 7 Try.f7 rfl rfl rfl rfl rfl rfl rfl ⟨rfl, rfl, rfl, rfl, rfl⟩ rfl rfl rfl rfl rfl (by kernel_rfl) Try.func7 (by kernel_rfl)
    (of_decide_eq_true (by kernel_rfl)) (by unfold Func.isWrapper; first | (rw [if_pos (by decide +kernel)]; kernel_rfl) | (rw [if_neg (by decide +kernel)]; exact ⟨rfl, rfl⟩))
    (fun os started H enc _ => lifted_PlanSteps os started H enc)
#print axioms PlanSteps_holds
end Go.Proofs.Ytklhhcflpffojaa
