/- forebaylaw11.RemapSteps: for every input the call returns true, and each argument reads behind it as it read before. The walk lies in the text that this one imports; here it is lifted to the given row. -/
import Derived.Test.YtfakgidimekikaaGreatMRm
import Derived.Test.YtfakgidimekikaaGreatMI
import Derived.Test.YtfakgidimekikaaGreatMEnt
import Derived.Test.YtfakgidimekikaaGreatMA
import Derived.Test.YtfakgidimekikaaGreatMArgs
import Derived.Test.YtfakgidimekikaaGreatMStsA
import Derived.Test.YtfakgidimekikaaGreatMEntA
import Derived.Deep.DeepCutAuto
namespace Go.Proofs.YtfakgidimekikaaGreat
open Go.RowKit Go.Fb
set_option linter.unusedVariables false
set_option maxRecDepth 100000 in
set_option maxHeartbeats 16000000 in
theorem walk_RemapSteps (A0 : Option Addr) (m k0 : Nat) (l : List (Nat → Int)) (hm : m = l.length) (hk0 : m ≤ k0) (hm0 : k0 ≤ maxLen) (A : Option Addr) (n c : Nat) (M : List Ndm) (hc : n ≤ c) (hmc : c ≤ maxLen) (A2 : Option Addr) (n2 c2 : Nat) (S : List Stm) (hc2 : n2 ≤ c2) (hm2 : c2 ≤ maxLen) (w : World) (hr : Reads w w.heap.size 6 A0 m (cellsE l)) (h : Nds w w.heap.size A n M) (hcap : CapN M) (hS : Sts w w.heap.size A2 n2 S) (hcs : ∀ m ∈ S, ∀ A n c, m.2.1 = .slice A n c → n ≤ c) :
    Calls Tryz.prog 6 #[.slice A0 m k0, .slice A n c, .slice A2 n2 c2] w fun e w' => e = .returned (.bool true) ∧ Below w.heap.size w w' := by
  obtain ⟨L, hL⟩ : ∃ L, L = fstN M := ⟨_, rfl⟩
  obtain ⟨P, hP⟩ : ∃ P, P = fstS S := ⟨_, rfl⟩
  obtain ⟨gv, hgv⟩ : ∃ v, v = greatP L P := ⟨_, rfl⟩
  have HG := Lib.hid (fun (wx : World) (hx : Fr w.heap.size [] w wx) => (by rw [hgv, hL, hP]; exact great10_any A A2 c c2 w.heap.size n n2 M S wx (h.frw hx (Nat.le_refl _) (by simp)) hx.size (by omega) (hS.frw hx (Nat.le_refl _) (by simp)) (by omega) : Calls Tryz.prog 24 #[.slice A n c, .slice A2 n2 c2] wx fun e w' => e = .returned (.bool gv) ∧ Fr wx.heap.size [] wx w'))
  have HA := Lib.hid (awake11_any w)
  have HL := Lib.hid hL
  have HP := Lib.hid hP
  have HGV := Lib.hid hgv
  have H := Lib.hid h
  have HST := Lib.hid hS
  have HNU := Lib.hid hS.num
  have HR := Lib.hid hr
  have HM := Lib.hid hm
  have HCP := Lib.hid hcap
  have HCS := Lib.hid hcs
  clear hL hP hgv h hS hcap hcs hr hm
  go_enter Tryz.func6, Tryz.ntmps6
  go_wp2_with fail
  refine HA.out.mono ?_
  rintro e w1 ⟨rfl, f1⟩
  have F1 := Lib.hid f1
  have HG1 := Lib.hid (HG.out w1 f1)
  clear f1 HA HG
  go_wp2_with fail
  refine HG1.out.mono ?_
  rintro e w2 ⟨rfl, f2⟩
  have F2 := Lib.hid (F1.out.trans (f2.mono (B' := w.heap.size) (L' := []) F1.out.size (by simp)))
  clear f2 HG1 F1
  cases gv with
  | true =>
    go_wp2_with fail
    go_ret
    exact ⟨rfl, F2.out.below⟩
  | false => ?_
  obtain ⟨hl20, hsm, hk, hs20, hss⟩ := greatP_no (by rw [← HL.out, ← HP.out]; exact HGV.out.symm)
  have HSM := Lib.hid hsm
  have HSS := Lib.hid hss
  have HL20 := Lib.hid hl20
  have hn2 : n2 ≤ 20 := by rw [HNU.out]; exact hs20
  clear hl20 hsm hk hs20 hss HGV
  by_cases hm100 : 100 < m
  · have hmi : (100 : Int) < (m : Int) := by omega
    go_wp2_with fail
    go_ret
    exact ⟨rfl, F2.out.below⟩
  have hmi : ¬ (100 : Int) < (m : Int) := by omega
  have HN2 := Lib.hid (cnew_any A0 m k0 w.heap.size l w2 HM.out (by omega) (HR.out.fr F2.out (Nat.le_refl _) (by simp)) F2.out.size)
  go_wp2_with fail
  refine HN2.out.mono ?_
  rintro e w4 (⟨ha, rfl, f4⟩ | ⟨ha, rfl, hc4, f4⟩)
  · have F4 := Lib.hid (F2.out.trans (f4.mono (B' := w.heap.size) (L' := []) F2.out.size (by simp)))
    clear f4 ha HN2
    go_wp2_with fail
    go_ret
    exact ⟨by simp, F4.out.below⟩
  have F4 := Lib.hid (F2.out.trans (f4.mono (B' := w.heap.size) (L' := []) F2.out.size (by simp)))
  obtain ⟨gm, hgm⟩ : ∃ g, g = w2.heap.size := ⟨_, rfl⟩
  have hwg : w.heap.size ≤ gm := by rw [hgm]; exact F2.out.size
  rw [← hgm] at hc4
  obtain ⟨gt, hgt⟩ : ∃ g, g = gm + 1 := ⟨_, rfl⟩
  rw [← hgt] at hc4
  have HGM := Lib.hid hgm
  have HGT := Lib.hid hgt
  rw [← hgm, ← hgt]
  obtain ⟨T, hT⟩ : ∃ T, T = tabL l := ⟨_, rfl⟩
  rw [← hT] at hc4
  have HTK := Lib.hid (show TOk T by rw [hT]; exact tabL_ok _ _ TOk.zero ha)
  have HLN := Lib.hid (show (allT T).length ≤ 100 by rw [hT]; exact Nat.le_trans (allT_len l) (by rw [← HM.out]; omega))
  have HC4 := Lib.hid hc4
  obtain ⟨ra, hra⟩ : ∃ r, r = applyN L P := ⟨_, rfl⟩
  have HRA := Lib.hid hra
  clear f4 ha HN2 hgm hgt hc4 hT hmi hra F2
  have HCY := Lib.hid (ccopy_any gt gm T w4 HC4.out)
  go_wp2_with fail
  refine HCY.out.mono ?_
  rintro e w5 ⟨rfl, hc5, f5⟩
  obtain ⟨um, hum⟩ : ∃ g, g = w4.heap.size := ⟨_, rfl⟩
  obtain ⟨gu, hgu⟩ : ∃ g, g = um + 1 := ⟨_, rfl⟩
  have hgl : gm < um := by rw [hum]; exact HC4.out.mp.lt
  have hgtl : gt < um := by rw [hum]; exact HC4.out.bk.lt
  rw [← hum, ← hgu] at hc5
  rw [← hum, ← hgu]
  have F5 := Lib.hid (F4.out.trans (f5.mono (B' := w.heap.size) (L' := []) F4.out.size (by simp)))
  have HC5 := Lib.hid (HC4.out.keep f5)
  have HU5 := Lib.hid hc5
  have HAP := Lib.hid (rmapply_any gt gm T HTK.out A A2 c c2 w.heap.size n n2 M S w5 HC5.out (H.out.frw F5.out (Nat.le_refl _) (by simp)) F5.out.size HSM.out (HST.out.frw F5.out (Nat.le_refl _) (by simp)) HSS.out (by omega) hwg)
  rw [← HL.out, ← HP.out, ← HRA.out] at HAP
  have hguu : um < gu := by omega
  clear f5 hc5 HCY F4 HC4 hum hgu
  go_wp2_with fail
  refine HAP.out.mono ?_
  rintro e w6 (⟨e1, rfl, hc6, f6⟩ | ⟨e1, A6, c6, n6, M6, rfl, _, _, _, hc6, f6⟩)
  · have hcb := kd_ne e1
    have hcn : (ra.1 != 0) = true := by simpa using e1
    have F6 := Lib.hid (F5.out.trans (f6.mono (B' := w.heap.size) (L' := []) F5.out.size (by simp)))
    have HU6 := Lib.hid (HU5.out.keep f6)
    have HC6 := Lib.hid hc6
    have HA6 := Lib.hid (call_any gt gm T HTK.out w6 hc6)
    clear f6 hc6 HAP F5 HC5 HU5 e1
    go_wp2_with fail
    refine HA6.out.mono ?_
    rintro e w7 ⟨A7, c7, rfl, r7, _, _, f7⟩
    have F7 := Lib.hid (F6.out.trans (f7.mono (B' := w.heap.size) (L' := []) F6.out.size (by simp)))
    have HA7 := Lib.hid (call_any gu um T HTK.out w7 (HU6.out.keep f7))
    have R7 := Lib.hid r7
    clear f7 r7 HA6 F6 HU6 HC6
    go_wp2_with fail
    refine HA7.out.mono ?_
    rintro e w8 ⟨A8, c8, rfl, r8, _, _, f8⟩
    have F8 := Lib.hid (F7.out.trans (f8.mono (B' := w.heap.size) (L' := []) F7.out.size (by simp)))
    have HSA := Lib.hid (same_yes (c1 := c7) (c2 := c8) (R7.out.fr f8 (Nat.le_refl _) (by simp)) r8 HLN.out)
    clear f8 r8 HA7 F7 R7
    go_wp2_with fail
    refine HSA.out.mono ?_
    rintro e w9 ⟨rfl, f9⟩
    have F9 := Lib.hid (F8.out.trans (f9.mono (B' := w.heap.size) (L' := []) F8.out.size (by simp)))
    clear f9 HSA F8
    go_wp2_with fail
    go_ret
    exact ⟨rfl, F9.out.below⟩
  have F6 := Lib.hid (F5.out.trans (f6.mono (B' := w.heap.size) (L' := []) F5.out.size (by simp; omega)))
  have HU6 := Lib.hid (HU5.out.fr f6 HU5.out.bk.lt (by simp; omega) HU5.out.mp.lt (by simp; omega))
  have HC6 := Lib.hid hc6
  have hum6 : um < w6.heap.size := HU6.out.mp.lt
  have HKD := Lib.hid (show ∀ s ∈ P, 1 ≤ s.kind ∧ s.kind ≤ 5 from apply_kinds (L := L) (by rw [← HRA.out]; exact e1))
  clear f6 hc6 HAP F5 HC5 HU5 e1
  go_wp2_with fail
  go_loopg [14, 51] n2 (fun g s14 s51 wr => ∃ k : Nat, k ≤ n2 ∧ g = n2 - k ∧ s51 = .int .i64 k ∧ (s14 = undef ∨ ∃ a, s14 = .pointer a) ∧ RowKit.Hid (CT wr gu um (kepL T (P.take k))) ∧ RowKit.Hid (Fr w6.heap.size [um] w6 wr))
  case atStart => exact ⟨0, Nat.zero_le _, rfl, rfl, .inl rfl, HU6, Lib.hid (Fr.refl _ _ _)⟩
  case round =>
    clear HU6
    obtain ⟨k, hk, rfl, rfl, h14, C, F⟩ := hrel
    have FW := Lib.hid (F6.out.trans (F.out.mono (B' := w.heap.size) (L' := []) F6.out.size (by simp; omega)))
    by_cases hkn : k < n2
    · have hki : (k : Int) < (n2 : Int) := by omega
      have hk0 : (0 : Int) ≤ (k : Int) := by omega
      obtain ⟨m, hx⟩ : ∃ m, S[k]? = some m := ⟨_, List.getElem?_eq_getElem (by rw [← HNU.out]; exact hkn)⟩
      have HSW := HST.out.frw FW.out (Nat.le_refl _) (by simp)
      obtain ⟨b1, o1, rfl, hb1, hc1⟩ := HSW.get hx
      have hin := HSW.inn m (List.mem_of_getElem? hx)
      have hPk : P[k]? = some m.1 := by rw [HP.out]; simp [fstS, hx]
      have HTK1 := Lib.hid (show kepL T (P.take (k + 1)) = kepS (kepL T (P.take k)) m.1 by rw [List.take_add_one, hPk]; exact kepL_snoc _ _ _)
      have HS0 := Lib.hid (show stpE m.1 = 0 from rm_ok (HKD.out m.1 (List.mem_of_getElem? hPk)))
      clear hPk
      obtain ⟨⟨kd, y, rs⟩, sf, sp⟩ := m
      simp only at hin HTK1 HS0
      obtain ⟨⟨Af, cf, hf1, hf2⟩, ⟨Ap, cp, hp1, hp2⟩⟩ := hin
      simp only at hf1 hp1 hf2 hp2
      subst hf1
      subst hp1
      clear hf2 hp2
      obtain ⟨nf, hnf⟩ : ∃ z, z = y.fr.length := ⟨_, rfl⟩
      obtain ⟨np, hnp⟩ : ∃ z, z = y.pg.length := ⟨_, rfl⟩
      rw [← hnf, ← hnp] at hc1
      have p0 := hc1 0 (.int .i64 kd) rfl
      have p1 := hc1 1 (.int .i64 y.id) rfl
      have p2 := hc1 2 (.int .i64 y.kind) rfl
      have p3 := hc1 3 (.slice Af nf cf) rfl
      have p4 := hc1 4 (.slice Ap np cp) rfl
      have p5 := hc1 5 (.int .i64 y.par) rfl
      have p6 := hc1 6 (.int .i64 (y.rt 0)) rfl
      have p7 := hc1 7 (.int .i64 (y.rt 1)) rfl
      have p8 := hc1 8 (.int .i64 (y.rt 2)) rfl
      have p9 := hc1 9 (.int .i64 (y.rt 3)) rfl
      have p10 := hc1 10 (.int .i64 (y.rt 4)) rfl
      have p11 := hc1 11 (.int .i64 (y.rt 5)) rfl
      have p12 := hc1 12 (.int .i64 (y.rt 6)) rfl
      have p13 := hc1 13 (.int .i64 (y.rt 7)) rfl
      have p14 := hc1 14 (.bool rs) rfl
      simp only [Nat.add_zero] at p0
      clear hc1 hx HSW hnf hnp FW
      have fa := (Fr.refl wr.heap.size [] wr).alloc (Nat.le_refl _) (.cells (stA kd y rs (.slice Af nf cf) (.slice Ap np cp)) 52)
      have BX := Lib.hid (Blk.new wr 52 (stA kd y rs (.slice Af nf cf) (.slice Ap np cp)))
      have CA := C.out.keep fa
      have HFA := Lib.hid (F.out.trans (fa.mono (B' := w6.heap.size) (L' := [um]) F.out.size (by simp)))
      have HSS1 := Lib.hid (rmstep_any gu um (kepL T (P.take k)) (TOk.kepL HTK.out) ⟨kd, y, rs⟩ (.slice Af nf cf) (.slice Ap np cp) (wr.alloc (.cells (stA kd y rs (.slice Af nf cf) (.slice Ap np cp)) 52)) CA)
      clear fa CA hb1
      go_upto_region 15 with fail
      clear p0 p1 p2 p3 p4 p5 p6 p7 p8 p9 p10 p11 p12 p13 p14
      generalize wr.alloc (.cells (stA kd y rs (.slice Af nf cf) (.slice Ap np cp)) 52) = wa at *
      generalize wr.heap.size = gx at BX
      have q0 := BX.out.cell 0
      have q1 := BX.out.cell 1
      have q2 := BX.out.cell 2
      have q3 := BX.out.cell 3
      have q4 := BX.out.cell 4
      have q5 := BX.out.cell 5
      have q6 := BX.out.cell 6
      have q7 := BX.out.cell 7
      have q8 := BX.out.cell 8
      have q9 := BX.out.cell 9
      have q10 := BX.out.cell 10
      have q11 := BX.out.cell 11
      have q12 := BX.out.cell 12
      have q13 := BX.out.cell 13
      have q14 := BX.out.cell 14
      simp at q0 q1 q2 q3 q4 q5 q6 q7 q8 q9 q10 q11 q12 q13 q14
      go_wp2_with fail
      refine HSS1.out.mono ?_
      rintro e w7 ⟨rfl, hc2, f2⟩
      have HC2 := Lib.hid (show CT w7 gu um (kepL T (P.take (k + 1))) by rw [HTK1.out]; exact hc2)
      have F2 := Lib.hid (HFA.out.trans (f2.mono (B' := w6.heap.size) (L' := [um]) HFA.out.size (by simp)))
      rw [HS0.out]
      clear hc2 f2 HSS1 HTK1 HFA
      go_wp2_with fail
      go_roundg (n2 - (k + 1))
      case measure => omega
      case rel => exact ⟨k + 1, by omega, rfl, by go_num, .inr ⟨_, rfl⟩, HC2, F2⟩
    · obtain rfl : n2 = k := by omega
      have hC := C.out
      rw [List.take_of_length_le (by rw [HP.out, HNU.out]; simp [fstS])] at hC
      have HU9 := Lib.hid hC
      have HT9 := Lib.hid (HC6.out.fr F.out HC6.out.bk.lt (by simp; omega) HC6.out.mp.lt (by simp; omega))
      obtain ⟨T2, hT2⟩ : ∃ T2, T2 = kepL T P := ⟨_, rfl⟩
      have HK2 := Lib.hid (show TOk T2 by rw [hT2]; exact TOk.kepL HTK.out)
      have HL2 := Lib.hid (show (allT T2).length ≤ 100 by rw [hT2]; exact Nat.le_trans (kepL_len T P) HLN.out)
      rw [← hT2] at HT9
      rw [← hT2] at HU9
      have HA6 := Lib.hid (call_any gt gm T2 HK2.out wr HT9.out)
      clear hC hT2 C F HC6
      go_wp2_with fail
      refine HA6.out.mono ?_
      rintro e w7 ⟨A7, c7, rfl, r7, _, _, f7⟩
      have F7 := Lib.hid (FW.out.trans (f7.mono (B' := w.heap.size) (L' := []) FW.out.size (by simp)))
      have HA7 := Lib.hid (call_any gu um T2 HK2.out w7 (HU9.out.keep f7))
      have R7 := Lib.hid r7
      clear f7 r7 HA6 FW HU9 HT9
      go_wp2_with fail
      refine HA7.out.mono ?_
      rintro e w8 ⟨A8, c8, rfl, r8, _, _, f8⟩
      have F8 := Lib.hid (F7.out.trans (f8.mono (B' := w.heap.size) (L' := []) F7.out.size (by simp)))
      have HSA := Lib.hid (same_yes (c1 := c7) (c2 := c8) (R7.out.fr f8 (Nat.le_refl _) (by simp)) r8 HL2.out)
      clear f8 r8 HA7 F7 R7
      go_wp2_with fail
      refine HSA.out.mono ?_
      rintro e w9 ⟨rfl, f9⟩
      have F9 := Lib.hid (F8.out.trans (f9.mono (B' := w.heap.size) (L' := []) F8.out.size (by simp)))
      clear f9 HSA F8
      go_wp2_with fail
      go_ret
      exact ⟨rfl, F9.out.below⟩
end Go.Proofs.YtfakgidimekikaaGreat
namespace Go.Proofs.YtfakgidimekikaaGreat
open Go.ChangeShapes Go.WideShapes Go.ChangeAt Go.RowKit Go.Fb
set_option linter.unusedVariables false

set_option maxRecDepth 100000 in
theorem lifted_RemapSteps (os : Os) (started : os.Started) (H : Type) (enc : TypeId × Value → H) :
    ReturnsInHanded {} Tryz.checked os 6 .any (Rows.remapStepsSpec.pre6 enc Tryz.prog Tryz.f6 Rows.remapStepsRow.domain false) (Rows.remapStepsSpec.post enc Tryz.prog Tryz.f6 false true false false) := by
  refine returnsInHanded_of_change (C := Tryz.checked) (show ownKnob Tryz.prog.godebug = none by kernel_rfl) started (by kernel_rfl) Tryz.func6
    (ChangeSpec.witness6 (enc := enc) (C := Tryz.checked) false ⟨#[], #[.slice none 0 0, .slice none 0 0, .slice none 0 0], []⟩ 8 (by kernel_rfl) (by kernel_rfl) (by kernel_rfl) (by kernel_rfl)) ?_
  intro W base args ds gs before hval0 hW hcnd _
  have hval : ∀ (j : Nat) t v, Tryz.f6.params[j]? = some t → args[j]? = some v → Value.okWide Tryz.prog W .any base t v := hval0
  have hW' := hW
  obtain ⟨p, q, hA0, hV, rfl, hfz, hnd⟩ := hW
  have hA : DataW.TrodAll enc Tryz.prog W 0 (fun _ => true) true Tryz.f6.params.toList args.toList ds p := hA0
  rw [Tryz.params6] at hA hval
  obtain ⟨v0, vs0, d0, ds0, p0, q0, hargs, rfl, rfl, h0, r0'⟩ := trodAll_cons hA
  obtain ⟨v1, vs1, d1, ds1, p1, q1, rfl, rfl, rfl, h1, r1'⟩ := trodAll_cons r0'
  obtain ⟨v2, vs2, d2, ds2, p2, q2, rfl, rfl, rfl, h2, r2'⟩ := trodAll_cons r1'
  obtain ⟨rfl, rfl, rfl⟩ := trodAll_nil r2'
  obtain rfl : args = #[v0, v1, v2] := by cases args; simp_all
  obtain ⟨rfl, rfl⟩ := trodVars_none hV
  have k0 := h0
  have lt0 : ∀ x ∈ p0, x.block < W.heap.size := by obtain ⟨m, hm⟩ := k0; exact DataW.trod_lt m _ _ _ hm
  have k1 := h1
  have lt1 : ∀ x ∈ p1, x.block < W.heap.size := by obtain ⟨m, hm⟩ := k1; exact DataW.trod_lt m _ _ _ hm
  have k2 := h2
  have lt2 : ∀ x ∈ p2, x.block < W.heap.size := by obtain ⟨m, hm⟩ := k2; exact DataW.trod_lt m _ _ _ hm
  obtain ⟨A0, c0, e0, rfl, g0, m0, r0⟩ := arg_ents (hval 0 33 v0 rfl rfl) h0
  obtain ⟨A1, n1, c1, M1, rfl, l1, m1, r1, wf1⟩ := arg_nodes (hval 1 34 v1 rfl rfl) h1
  obtain ⟨A2, n2, c2, M2, rfl, l2, m2, r2, wf2⟩ := arg_steps (hval 2 35 v2 rfl rfl) h2
  clear hA0 hval0
  refine (walk_RemapSteps A0 e0.length c0 e0 rfl g0 m0 A1 n1 c1 M1 l1 m1 A2 n2 c2 M2 l2 m2 W r0 r1 wf1.cap r2 wf2.cap).mono fun e W' ⟨he, bel⟩ => ?_
  subst he
  exact ⟨_, rfl, _, _, _, [], _, [], hW', trodAll_mk1 (shut_bool Tryz.underlying4 _), (trodAll_cons_mk (Below.trod (show laidOutB Tryz.prog = true by kernel_rfl) (by kernel_rfl) (of_decide_eq_true (by kernel_rfl)) k0 bel lt0) (trodAll_cons_mk (Below.trod (show laidOutB Tryz.prog = true by kernel_rfl) (by kernel_rfl) (of_decide_eq_true (by kernel_rfl)) k1 bel lt1) (trodAll_cons_mk (Below.trod (show laidOutB Tryz.prog = true by kernel_rfl) (by kernel_rfl) (of_decide_eq_true (by kernel_rfl)) k2 bel lt2) trodAll_mk0))), rfl, bel.frame _, fun h => by cases h⟩

theorem RemapSteps_holds : Rows.RemapStepsSaid :=
  OpenClaim.holds_of_wide 6 Tryz.f6 rfl rfl rfl rfl rfl rfl rfl ⟨rfl, rfl, rfl, rfl, rfl⟩ rfl rfl rfl rfl rfl (by kernel_rfl) Tryz.func6 (by kernel_rfl)
    (of_decide_eq_true (by kernel_rfl)) (by unfold Func.isWrapper; first | (rw [if_pos (by decide +kernel)]; kernel_rfl) | (rw [if_neg (by decide +kernel)]; exact ⟨rfl, rfl⟩))
    (fun os started H enc _ => lifted_RemapSteps os started H enc)
#print axioms RemapSteps_holds
end Go.Proofs.YtfakgidimekikaaGreat
