/- forebaylaw10.PlanApplies: for every input the call returns true, and each argument reads behind it as it read before. The walk lies in the text that this one imports; here it is lifted to the given row. -/
import Derived.Test.YtklhhcflpffojaaMI
import Derived.Test.YtklhhcflpffojaaMK
import Derived.Test.YtklhhcflpffojaaMG
import Derived.Test.YtklhhcflpffojaaMArgs
import Derived.Test.YtklhhcflpffojaaMStsA
import Derived.Deep.DeepCutAuto
namespace Go.Proofs.Ytklhhcflpffojaa
open Go.RowKit Go.Fb
set_option linter.unusedVariables false
set_option maxRecDepth 100000 in
set_option maxHeartbeats 16000000 in
theorem walk_PlanApplies (A : Option Addr) (n c : Nat) (M : List Ndm) (hc : n ≤ c) (hm : c ≤ maxLen) (A2 : Option Addr) (n2 c2 : Nat) (S : List Stm) (hc2 : n2 ≤ c2) (hm2 : c2 ≤ maxLen) (w : World) (h : Nds w w.heap.size A n M) (hcap : CapN M) (hS : Sts w w.heap.size A2 n2 S) (hcs : ∀ m ∈ S, ∀ A n c, m.2.1 = .slice A n c → n ≤ c) :
    Calls Try.prog 3 #[.slice A n c, .slice A2 n2 c2] w fun e w' => e = .returned (.bool true) ∧ Below w.heap.size w w' := by
  obtain ⟨L, hL⟩ : ∃ L, L = fstN M := ⟨_, rfl⟩
  obtain ⟨P, hP⟩ : ∃ P, P = fstS S := ⟨_, rfl⟩
  obtain ⟨gv, hgv⟩ : ∃ v, v = greatP L P := ⟨_, rfl⟩
  have HG := Lib.hid (fun (wx : World) (hx : Fr w.heap.size [] w wx) => (by rw [hgv, hL, hP]; exact great10_any A A2 c c2 w.heap.size n n2 M S wx (h.frw hx (Nat.le_refl _) (by simp)) hx.size (by omega) (hS.frw hx (Nat.le_refl _) (by simp)) (by omega) : Calls Try.prog 10 #[.slice A n c, .slice A2 n2 c2] wx fun e w' => e = .returned (.bool gv) ∧ Fr wx.heap.size [] wx w'))
  have HA := Lib.hid (awake10_any w)
  have HL := Lib.hid hL
  have HP := Lib.hid hP
  have HGV := Lib.hid hgv
  have H := Lib.hid h
  have HST := Lib.hid hS
  have HCP := Lib.hid hcap
  have HCS := Lib.hid hcs
  have HNU := Lib.hid hS.num
  clear hL hP hgv h hS hcap hcs
  go_enter Try.func3, Try.ntmps3
  go_wp2_with fail
  refine HA.out.mono ?_
  rintro e w1 ⟨rfl, f1⟩
  have F1 := Lib.hid f1
  have HG1 := Lib.hid (HG.out w1 f1)
  clear f1 HA HG
  go_wp2_with fail
  refine HG1.out.mono ?_
  rintro e w2 ⟨rfl, f2⟩
  have F2 := Lib.hid (F1.out.trans (f2.mono (B' := w.heap.size) (L' := []) F1.out.size (by simp)))
  clear f2 HG1 F1
  cases gv with
  | true =>
    go_wp2_with fail
    go_ret
    exact ⟨rfl, F2.out.below⟩
  | false => ?_
  obtain ⟨hl20, hsm, hk, hs20, hss⟩ := greatP_no (by rw [← HL.out, ← HP.out]; exact HGV.out.symm)
  have HSM := Lib.hid hsm
  have HK := Lib.hid hk
  have HSS := Lib.hid hss
  have hn2 : n2 ≤ 20 := by rw [HNU.out]; exact hs20
  obtain ⟨ra, hra⟩ : ∃ r, r = applyN L P := ⟨_, rfl⟩
  obtain ⟨rb, hrb⟩ : ∃ r, r = applyR L P := ⟨_, rfl⟩
  have hag := apply_agree L P
  rw [← hra, ← hrb] at hag
  obtain ⟨ha1, ha2, ha3⟩ := hag
  have HA3 := Lib.hid ha3
  have HAP := Lib.hid (by rw [hra, HL.out, HP.out]; exact papply_any A A2 c c2 w.heap.size n n2 M S w2 (H.out.frw F2.out (Nat.le_refl _) (by simp)) F2.out.size hsm (HST.out.frw F2.out (Nat.le_refl _) (by simp)) hss (by omega) : Calls Try.prog 11 #[.slice A n c, .slice A2 n2 c2] w2 (ApOut ra w2))
  have HRP := Lib.hid (fun (wx : World) (hx : Fr w.heap.size [] w wx) => (by rw [hrb, HL.out, HP.out]; exact rapply_any A A2 c c2 w.heap.size n n2 M S wx (H.out.frw hx (Nat.le_refl _) (by simp)) hx.size hsm (HST.out.frw hx (Nat.le_refl _) (by simp)) hss (by omega) HCP.out hc HCS.out : Calls Try.prog 12 #[.slice A n c, .slice A2 n2 c2] wx (RApOut rb wx)))
  have HID := Lib.hid (fun (wx : World) (hx : Fr w.heap.size [] w wx) => (by rw [HL.out, HP.out]; exact idle_any A A2 c c2 w.heap.size n n2 M S wx (H.out.frw hx (Nat.le_refl _) (by simp)) hx.size hsm (HST.out.frw hx (Nat.le_refl _) (by simp)) hss (by omega) : Calls Try.prog 16 #[.slice A n c, .slice A2 n2 c2] wx fun e w' => e = .returned (.bool (idleN L P)) ∧ Fr wx.heap.size [] wx w'))
  obtain ⟨iv, hiv⟩ : ∃ b, b = idleN L P := ⟨_, rfl⟩
  rw [← hiv] at HID
  obtain ⟨b0, hb0⟩ : ∃ b, b = decide (ra.1 = 0) := ⟨_, rfl⟩
  have HIV := Lib.hid (show iv = (b0 && P.all fun s => decide (s.kind = 4)) by
    rw [hiv, hb0, hra]
    unfold idleN
    congr 1
    rw [List.not_any_eq_all_not]
    simp)
  have HRA := Lib.hid hra
  have HRB := Lib.hid hrb
  have HB0 := Lib.hid hb0
  have HA1 := Lib.hid ha1
  have HA2 := Lib.hid ha2
  clear hra hrb ha3 hsm hk hss hiv hl20 hs20 hb0 ha1 ha2
  go_wp2_with fail
  refine HAP.out.mono ?_
  intro e w3 h3
  obtain ⟨A3, c3, n3, rfl, f3, h3a, h3b⟩ := apply_uni HRA.out h3
  have H3A := Lib.hid h3a
  have H3B := Lib.hid h3b
  have F3 := Lib.hid (F2.out.trans (f3.mono (B' := w.heap.size) (L' := []) F2.out.size (by simp)))
  have HRP3 := Lib.hid (HRP.out w3 F3.out)
  clear f3 h3 h3a h3b HAP HRP F2
  go_wp2_with fail
  refine HRP3.out.mono ?_
  intro e w4 h4
  obtain ⟨A4, c4, n4, rfl, f4, h4b⟩ := rapply_uni HRB.out h4
  have H4B := Lib.hid h4b
  have F34 := Lib.hid f4
  have F4 := Lib.hid (F3.out.trans (f4.mono (B' := w.heap.size) (L' := []) F3.out.size (by simp)))
  rw [← HA1.out, ← HA2.out]
  obtain ⟨a1, hq1⟩ : ∃ a, a = ra.1 := ⟨_, rfl⟩
  obtain ⟨a2, hq2⟩ : ∃ a, a = ra.2.1 := ⟨_, rfl⟩
  rw [← hq1, ← hq2]
  rw [← HA1.out, ← hq1] at H4B
  rw [← hq1] at H3A H3B HB0 HA3
  clear f4 h4 h4b HRP3 F3 hq1 hq2
  go_upto_region 7 with fail
  go_cut [62] (fun s wx => s = .bool false ∧ RowKit.Hid (Fr w.heap.size [] w wx))
  case first =>
    by_cases e1 : a1 = 0
    case neg =>
      obtain ⟨rfl, rfl, rfl⟩ := H3A.out e1
      have hcb := kd_ne e1
      have hcn : (a1 != 0) = true := by simpa using e1
      clear e1
      go_wp2_with fail
      go_meet
      exact ⟨rfl, F4⟩
    obtain ⟨hn30, M3, hn3, hf3, hr3⟩ := H3B.out e1
    obtain ⟨M4, hn4, _, hf4, hr4⟩ := H4B.out e1
    obtain ⟨hpr, hpp⟩ := HA3.out e1
    have hn3b : ((n3 : Int) == 0) = false := by simpa using hn30
    have HSA := Lib.hid (by
      have := rsame_any A3 A4 c3 c4 w4.heap.size n3 n4 M3 M4 w4 ((hn3.nds F34.out (by simp)).more F34.out.size) hn4 (Nat.le_refl _) (small_right' hr3 hf3) (small_right' hr4 hf4)
      rw [hf3, hf4, rsameL_perm hpp hpr.uni] at this
      exact this : Calls Try.prog 13 #[.slice A3 n3 c3, .slice A4 n4 c4] w4 fun e w' => e = .returned (.bool true) ∧ Fr w4.heap.size [] w4 w')
    clear hn3 hf3 hr3 hn4 hf4 hr4 hpr hpp
    subst e1
    go_wp2_with fail
    refine HSA.out.mono ?_
    rintro e w5 ⟨rfl, f5⟩
    have F5 := Lib.hid (F4.out.trans (f5.mono (B' := w.heap.size) (L' := []) F4.out.size (by simp)))
    clear f5 HSA
    go_wp2_with fail
    go_meet
    exact ⟨rfl, F5⟩
  obtain ⟨rfl, FC⟩ := hcut
  clear F4 F34 H4B H3A H3B HA3 HRA HRB HA1 HA2
  have hq0 : (a1 == 0) = b0 := by rw [HB0.out]; rfl
  go_wp2_with fail
  go_loopg [11, 13, 67] n2 (fun g s11 s13 s67 wr => ∃ (k : Nat) (bi : Bool), k ≤ n2 ∧ g = n2 - k ∧ s67 = .int .i64 k ∧ (s13 = undef ∨ ∃ a, s13 = .pointer a) ∧ s11 = .bool bi ∧ RowKit.Hid (bi = (b0 && (P.take k).all fun s => decide (s.kind = 4))) ∧ RowKit.Hid (Fr w.heap.size [] w wr))
  case atStart => exact ⟨0, b0, Nat.zero_le _, rfl, rfl, .inl rfl, rfl, Lib.hid (by simp), FC⟩
  case round =>
    clear FC hq0 HB0
    obtain ⟨k, bi, hk, rfl, rfl, h8, rfl, HBI, FR⟩ := hrel
    by_cases hkn : k < n2
    · have hki : (k : Int) < (n2 : Int) := by omega
      have hk0 : (0 : Int) ≤ (k : Int) := by omega
      obtain ⟨m, hx⟩ : ∃ m, S[k]? = some m := ⟨_, List.getElem?_eq_getElem (by rw [← HNU.out]; exact hkn)⟩
      have HSW := HST.out.frw FR.out (Nat.le_refl _) (by simp)
      obtain ⟨bq, oq, hAq, hbq, hc1⟩ := HSW.get hx
      have hin := HSW.inn m (List.mem_of_getElem? hx)
      have hsm := HSS.out m (List.mem_of_getElem? hx)
      have hcs1 := HCS.out m (List.mem_of_getElem? hx)
      have HTK := Lib.hid (show P.take (k + 1) = P.take k ++ [m.1] by rw [HP.out, List.take_add_one]; simp [fstS, hx])
      subst hAq
      obtain ⟨⟨kd, y, rs⟩, sf, sp⟩ := m
      simp only at hin hsm HTK hcs1
      obtain ⟨⟨Af, cf, hf1, hf2⟩, ⟨Ap, cp, hp1, hp2⟩⟩ := hin
      simp only at hf1 hp1 hf2 hp2
      subst hf1
      subst hp1
      have hin2 : NdIn wr w.heap.size (y, .slice Af y.fr.length cf, .slice Ap y.pg.length cp) := ⟨⟨Af, cf, rfl, hf2⟩, ⟨Ap, cp, rfl, hp2⟩⟩
      clear hf2 hp2
      obtain ⟨nf, hnf⟩ : ∃ z, z = y.fr.length := ⟨_, rfl⟩
      obtain ⟨np, hnp⟩ : ∃ z, z = y.pg.length := ⟨_, rfl⟩
      rw [← hnf, ← hnp] at hin2 hc1
      rw [← hnf] at hcs1
      have p0 := hc1 0 (.int .i64 kd) rfl
      have p1 := hc1 1 (.int .i64 y.id) rfl
      have p2 := hc1 2 (.int .i64 y.kind) rfl
      have p3 := hc1 3 (.slice Af nf cf) rfl
      have p4 := hc1 4 (.slice Ap np cp) rfl
      have p5 := hc1 5 (.int .i64 y.par) rfl
      have p6 := hc1 6 (.int .i64 (y.rt 0)) rfl
      have p7 := hc1 7 (.int .i64 (y.rt 1)) rfl
      have p8 := hc1 8 (.int .i64 (y.rt 2)) rfl
      have p9 := hc1 9 (.int .i64 (y.rt 3)) rfl
      have p10 := hc1 10 (.int .i64 (y.rt 4)) rfl
      have p11 := hc1 11 (.int .i64 (y.rt 5)) rfl
      have p12 := hc1 12 (.int .i64 (y.rt 6)) rfl
      have p13 := hc1 13 (.int .i64 (y.rt 7)) rfl
      have p14 := hc1 14 (.bool rs) rfl
      simp only [Nat.add_zero] at p0
      have HIN := Lib.hid hin2
      have HSMS := Lib.hid hsm
      have HC1 := Lib.hid hcs1
      clear hc1 hx HSW hsm hin2 hnf hnp hcs1
      have BX := Lib.hid (Blk.new wr 38 (stA kd y rs (.slice Af nf cf) (.slice Ap np cp)))
      have fa := (Fr.refl wr.heap.size [] wr).alloc (Nat.le_refl _) (.cells (stA kd y rs (.slice Af nf cf) (.slice Ap np cp)) 38)
      have FA := Lib.hid (FR.out.trans (fa.mono (B' := w.heap.size) (L' := []) FR.out.size (by simp)))
      have HIA := Lib.hid (HIN.out.frw fa FR.out.size (by simp))
      clear fa
      go_upto_region 13 with fail
      clear p0 p1 p2 p3 p4 p5 p6 p7 p8 p9 p10 p11 p12 p13 p14
      generalize wr.alloc (.cells (stA kd y rs (.slice Af nf cf) (.slice Ap np cp)) 38) = wa at *
      generalize hgx : wr.heap.size = gx at BX
      have q0 := BX.out.cell 0
      have q1 := BX.out.cell 1
      have q2 := BX.out.cell 2
      have q3 := BX.out.cell 3
      have q4 := BX.out.cell 4
      have q5 := BX.out.cell 5
      have q6 := BX.out.cell 6
      have q7 := BX.out.cell 7
      have q8 := BX.out.cell 8
      have q9 := BX.out.cell 9
      have q10 := BX.out.cell 10
      have q11 := BX.out.cell 11
      have q12 := BX.out.cell 12
      have q13 := BX.out.cell 13
      have q14 := BX.out.cell 14
      simp at q0 q1 q2 q3 q4 q5 q6 q7 q8 q9 q10 q11 q12 q13 q14
      obtain ⟨b4, hb4⟩ : ∃ b, b = (kd == 4) := ⟨_, rfl⟩
      have HBN := Lib.hid (show (bi && b4) = (b0 && (P.take (k + 1)).all fun s => decide (s.kind = 4)) by
        rw [HTK.out, List.all_append, ← Bool.and_assoc, ← HBI.out, hb4]
        simp only [List.all_cons, List.all_nil, Bool.and_true]
        rfl)
      replace hb4 := hb4.symm
      go_cut [11] (fun s wx => s = .bool (bi && b4) ∧ wx = wa)
      case first =>
        cases bi
        · go_wp2_with fail
          go_meet
          exact ⟨rfl, rfl⟩
        · cases b4
          · go_wp2_with fail
            go_meet
            exact ⟨rfl, rfl⟩
          · go_wp2_with fail
            go_meet
            exact ⟨rfl, rfl⟩
      obtain ⟨rfl, rfl⟩ := hcut
      have hag := step_agree (List.Perm.refl L) ⟨kd, y, rs⟩
      obtain ⟨sa, hsa⟩ : ∃ r, r = stepN L ⟨kd, y, rs⟩ := ⟨_, rfl⟩
      obtain ⟨sb, hsb⟩ : ∃ r, r = stepR L ⟨kd, y, rs⟩ := ⟨_, rfl⟩
      rw [← hsa, ← hsb] at hag
      obtain ⟨hg1, hg2⟩ := hag
      have HPS := Lib.hid (by rw [hsa, HL.out]; exact pstep_any A c w.heap.size n M ⟨kd, y, rs⟩ (.slice Af nf cf) (.slice Ap np cp) wc (H.out.frw FA.out (Nat.le_refl _) (by simp)) FA.out.size HSM.out HIA.out HSMS.out.1 HSMS.out.2 HK.out : Calls Try.prog 14 #[.slice A n c, .agg (stA kd y rs (.slice Af nf cf) (.slice Ap np cp))] wc (PStepOut sa wc))
      have HRS := Lib.hid (fun (wx : World) (hx : Fr wc.heap.size [] wc wx) => (by rw [hsb, HL.out]; exact rstep_any A c w.heap.size n M ⟨kd, y, rs⟩ (.slice Af nf cf) (.slice Ap np cp) wx (H.out.frw (FA.out.trans (hx.mono (B' := w.heap.size) (L' := []) FA.out.size (by simp))) (Nat.le_refl _) (by simp)) (Nat.le_trans FA.out.size hx.size) HSM.out HCP.out (HIA.out.frw hx FA.out.size (by simp)) HSMS.out.1 HSMS.out.2 HK.out HC1.out hc : Calls Try.prog 15 #[.slice A n c, .agg (stA kd y rs (.slice Af nf cf) (.slice Ap np cp))] wx (RStepOut sb wx)))
      have HG1 := Lib.hid hg1
      have HG2 := Lib.hid hg2
      have hgl : gx < wc.heap.size := BX.out.lt
      clear hsa hsb hg1 hg2 hgx hb4
      go_wp2_with fail
      refine HPS.out.mono ?_
      intro e w6 h6
      obtain ⟨A6, c6, n6, rfl, f6, _, h6b⟩ := step_uni h6
      have H6B := Lib.hid h6b
      have HRS6 := Lib.hid (HRS.out w6 f6)
      have F6 := Lib.hid (FA.out.trans (f6.mono (B' := w.heap.size) (L' := []) FA.out.size (by simp)))
      have BX6 := Lib.hid (BX.out.fr f6 BX.out.lt (by simp))
      clear f6 h6 h6b HRS HPS BX q0 q1 q2 q3 q4 q5 q6 q7 q8 q9 q10 q11 q12 q13 q14
      have q0 := BX6.out.cell 0
      have q1 := BX6.out.cell 1
      have q2 := BX6.out.cell 2
      have q3 := BX6.out.cell 3
      have q4 := BX6.out.cell 4
      have q5 := BX6.out.cell 5
      have q6 := BX6.out.cell 6
      have q7 := BX6.out.cell 7
      have q8 := BX6.out.cell 8
      have q9 := BX6.out.cell 9
      have q10 := BX6.out.cell 10
      have q11 := BX6.out.cell 11
      have q12 := BX6.out.cell 12
      have q13 := BX6.out.cell 13
      have q14 := BX6.out.cell 14
      simp at q0 q1 q2 q3 q4 q5 q6 q7 q8 q9 q10 q11 q12 q13 q14
      go_wp2_with fail
      refine HRS6.out.mono ?_
      intro e w7 h7
      obtain ⟨A7, c7, n7, rfl, f7, h7b⟩ := rstep_uni h7
      have H7B := Lib.hid h7b
      have F67 := Lib.hid f7
      have F7 := Lib.hid (F6.out.trans (f7.mono (B' := w.heap.size) (L' := []) F6.out.size (by simp)))
      obtain ⟨s1, hs1⟩ : ∃ s, s = sa.1 := ⟨_, rfl⟩
      rw [← HG1.out, ← hs1]
      rw [← HG1.out, ← hs1] at H7B
      rw [← hs1] at H6B HG2
      clear f7 h7 h7b HRS6 F6 BX6 hs1 q0 q1 q2 q3 q4 q5 q6 q7 q8 q9 q10 q11 q12 q13 q14
      go_upto_region 16 with fail
      go_cut [101] (fun s wx => s = .bool false ∧ RowKit.Hid (Fr w.heap.size [] w wx))
      case first =>
        by_cases e1 : s1 = 0
        case neg =>
          have hcb := kd_ne e1
          clear e1
          go_wp2_with fail
          go_meet
          exact ⟨rfl, F7⟩
        obtain ⟨M6, hn6, hf6⟩ := H6B.out e1
        obtain ⟨M7, hn7, hf7, hr7⟩ := H7B.out e1
        obtain ⟨_, hpp⟩ := HG2.out e1
        have HSA := Lib.hid (by
          have hp : (normL sb.2).Perm sb.2 := normL_perm _
          have := rsame_any A6 A7 c6 c7 w7.heap.size n6 n7 M6 M7 w7 ((hn6.nds F67.out (by simp)).more F67.out.size) hn7 (Nat.le_refl _) (small_right' (right_perm hp.symm hr7) (by rw [hf6, hpp])) (small_right' hr7 hf7)
          rw [hf6, hf7, hpp, rsameL_perm hp hr7.uni] at this
          exact this : Calls Try.prog 13 #[.slice A6 n6 c6, .slice A7 n7 c7] w7 fun e w' => e = .returned (.bool true) ∧ Fr w7.heap.size [] w7 w')
        clear hn6 hf6 hn7 hf7 hr7 hpp
        subst e1
        go_wp2_with fail
        refine HSA.out.mono ?_
        rintro e w8 ⟨rfl, f8⟩
        have F8 := Lib.hid (F7.out.trans (f8.mono (B' := w.heap.size) (L' := []) F7.out.size (by simp)))
        clear f8 HSA
        go_wp2_with fail
        go_meet
        exact ⟨rfl, F8⟩
      obtain ⟨rfl, FC⟩ := hcut
      clear H6B H7B HG1 HG2 F67 F7
      go_wp2_with fail
      go_roundg (n2 - (k + 1))
      case measure => omega
      case rel => exact ⟨k + 1, _, by omega, rfl, by go_num, .inr ⟨_, rfl⟩, rfl, HBN, FC⟩
    · obtain rfl : k = n2 := by omega
      have HV := Lib.hid (show iv = bi by
        rw [HIV.out, HBI.out, List.take_of_length_le (by rw [HP.out, HNU.out]; simp [fstS])])
      have HI := Lib.hid (HID.out wr FR.out)
      go_wp2_with fail
      refine HI.out.mono ?_
      rintro e w6 ⟨rfl, f6⟩
      have F6 := Lib.hid (FR.out.trans (f6.mono (B' := w.heap.size) (L' := []) FR.out.size (by simp)))
      rw [HV.out]
      clear f6 HI FR
      have hbb : (bi == bi) = true := by cases bi <;> rfl
      go_wp2_with fail
      go_ret
      exact ⟨by simp, F6.out.below⟩
end Go.Proofs.Ytklhhcflpffojaa
namespace Go.Proofs.Ytklhhcflpffojaa
open Go.ChangeShapes Go.WideShapes Go.ChangeAt Go.RowKit Go.Fb
set_option linter.unusedVariables false

set_option maxRecDepth 100000 in
theorem lifted_PlanApplies (os : Os) (started : os.Started) (H : Type) (enc : TypeId × Value → H) :
    ReturnsInHanded {} Try.checked os 3 .any (Rows.planAppliesSpec.pre6 enc Try.prog Try.f3 Rows.planAppliesRow.domain false) (Rows.planAppliesSpec.post enc Try.prog Try.f3 false true false false) := by
  refine returnsInHanded_of_change (C := Try.checked) (show ownKnob Try.prog.godebug = none by kernel_rfl) started (by kernel_rfl) Try.func3
    (ChangeSpec.witness6 (enc := enc) (C := Try.checked) false ⟨#[], #[.slice none 0 0, .slice none 0 0], []⟩ 8 (by kernel_rfl) (by kernel_rfl) (by kernel_rfl) (by kernel_rfl)) ?_
  intro W base args ds gs before hval0 hW hcnd _
  have hval : ∀ (j : Nat) t v, Try.f3.params[j]? = some t → args[j]? = some v → Value.okWide Try.prog W .any base t v := hval0
  have hW' := hW
  obtain ⟨p, q, hA0, hV, rfl, hfz, hnd⟩ := hW
  have hA : DataW.TrodAll enc Try.prog W 0 (fun _ => true) true Try.f3.params.toList args.toList ds p := hA0
  rw [Try.params3] at hA hval
  obtain ⟨v0, vs0, d0, ds0, p0, q0, hargs, rfl, rfl, h0, r0'⟩ := trodAll_cons hA
  obtain ⟨v1, vs1, d1, ds1, p1, q1, rfl, rfl, rfl, h1, r1'⟩ := trodAll_cons r0'
  obtain ⟨rfl, rfl, rfl⟩ := trodAll_nil r1'
  obtain rfl : args = #[v0, v1] := by cases args; simp_all
  obtain ⟨rfl, rfl⟩ := trodVars_none hV
  have k0 := h0
  have lt0 : ∀ x ∈ p0, x.block < W.heap.size := by obtain ⟨m, hm⟩ := k0; exact DataW.trod_lt m _ _ _ hm
  have k1 := h1
  have lt1 : ∀ x ∈ p1, x.block < W.heap.size := by obtain ⟨m, hm⟩ := k1; exact DataW.trod_lt m _ _ _ hm
  obtain ⟨A0, n0, c0, M0, rfl, l0, m0, r0, wf0⟩ := arg_nodes (hval 0 22 v0 rfl rfl) h0
  obtain ⟨A1, n1, c1, M1, rfl, l1, m1, r1, wf1⟩ := arg_steps (hval 1 23 v1 rfl rfl) h1
  clear hA0 hval0
  refine (walk_PlanApplies A0 n0 c0 M0 l0 m0 A1 n1 c1 M1 l1 m1 W r0 wf0.cap r1 wf1.cap).mono fun e W' ⟨he, bel⟩ => ?_
  subst he
  exact ⟨_, rfl, _, _, _, [], _, [], hW', trodAll_mk1 (shut_bool Try.underlying4 _), (trodAll_cons_mk (Below.trod (show laidOutB Try.prog = true by kernel_rfl) (by kernel_rfl) (of_decide_eq_true (by kernel_rfl)) k0 bel lt0) (trodAll_cons_mk (Below.trod (show laidOutB Try.prog = true by kernel_rfl) (by kernel_rfl) (of_decide_eq_true (by kernel_rfl)) k1 bel lt1) trodAll_mk0)), rfl, bel.frame _, fun h => by cases h⟩

theorem PlanApplies_holds : Rows.PlanAppliesSaid :=
  OpenClaim.holds_of_wide 3 Try.f3 rfl rfl rfl rfl rfl rfl rfl ⟨rfl, rfl, rfl, rfl, rfl⟩ rfl rfl rfl rfl rfl (by kernel_rfl) Try.func3 (by kernel_rfl)
    (of_decide_eq_true (by kernel_rfl)) (by unfold Func.isWrapper; first | (rw [if_pos (by decide +kernel)]; kernel_rfl) | (rw [if_neg (by decide +kernel)]; exact ⟨rfl, rfl⟩))
    (fun os started H enc _ => lifted_PlanApplies os started H enc)
#print axioms PlanApplies_holds
end Go.Proofs.Ytklhhcflpffojaa
