/- forebaylaw11.RemapApplies: for every input the call returns true, and each argument reads behind it as it read before. The walk lies in the text that this one imports; here it is lifted to the given row. -/
import Derived.Test.YtfakgidimekikaaGreatMRm
import Derived.Test.YtfakgidimekikaaGreatMI
import Derived.Test.YtfakgidimekikaaGreatMEnt
import Derived.Test.YtfakgidimekikaaGreatMA
import Derived.Test.YtfakgidimekikaaGreatMK
import Derived.Test.YtfakgidimekikaaGreatMG
import Derived.Test.YtfakgidimekikaaGreatMArgs
import Derived.Test.YtfakgidimekikaaGreatMStsA
import Derived.Test.YtfakgidimekikaaGreatMEntA
import Derived.Deep.DeepCutAuto
namespace Go.Proofs.YtfakgidimekikaaGreat
open Go.RowKit Go.Fb
set_option linter.unusedVariables false
set_option maxRecDepth 100000 in
set_option maxHeartbeats 16000000 in
theorem walk_RemapApplies (A0 : Option Addr) (m k0 : Nat) (l : List (Nat → Int)) (hm : m = l.length) (hk0 : m ≤ k0) (hm0 : k0 ≤ maxLen) (A : Option Addr) (n c : Nat) (M : List Ndm) (hc : n ≤ c) (hmc : c ≤ maxLen) (A2 : Option Addr) (n2 c2 : Nat) (S : List Stm) (hc2 : n2 ≤ c2) (hm2 : c2 ≤ maxLen) (w : World) (hr : Reads w w.heap.size 6 A0 m (cellsE l)) (h : Nds w w.heap.size A n M) (hcap : CapN M) (hS : Sts w w.heap.size A2 n2 S) (hcs : ∀ m ∈ S, ∀ A n c, m.2.1 = .slice A n c → n ≤ c) :
    Calls Tryz.prog 5 #[.slice A0 m k0, .slice A n c, .slice A2 n2 c2] w fun e w' => e = .returned (.bool true) ∧ Below w.heap.size w w' := by
  obtain ⟨L, hL⟩ : ∃ L, L = fstN M := ⟨_, rfl⟩
  obtain ⟨P, hP⟩ : ∃ P, P = fstS S := ⟨_, rfl⟩
  obtain ⟨gv, hgv⟩ : ∃ v, v = greatP L P := ⟨_, rfl⟩
  have HG := Lib.hid (fun (wx : World) (hx : Fr w.heap.size [] w wx) => (by rw [hgv, hL, hP]; exact great10_any A A2 c c2 w.heap.size n n2 M S wx (h.frw hx (Nat.le_refl _) (by simp)) hx.size (by omega) (hS.frw hx (Nat.le_refl _) (by simp)) (by omega) : Calls Tryz.prog 24 #[.slice A n c, .slice A2 n2 c2] wx fun e w' => e = .returned (.bool gv) ∧ Fr wx.heap.size [] wx w'))
  have HA := Lib.hid (awake11_any w)
  have HL := Lib.hid hL
  have HP := Lib.hid hP
  have HGV := Lib.hid hgv
  have H := Lib.hid h
  have HST := Lib.hid hS
  have HNU := Lib.hid hS.num
  have HR := Lib.hid hr
  have HM := Lib.hid hm
  have HCP := Lib.hid hcap
  have HCS := Lib.hid hcs
  clear hL hP hgv h hS hcap hcs hr hm
  go_enter Tryz.func5, Tryz.ntmps5
  go_wp2_with fail
  refine HA.out.mono ?_
  rintro e w1 ⟨rfl, f1⟩
  have F1 := Lib.hid f1
  have HG1 := Lib.hid (HG.out w1 f1)
  clear f1 HA HG
  go_wp2_with fail
  refine HG1.out.mono ?_
  rintro e w2 ⟨rfl, f2⟩
  have F2 := Lib.hid (F1.out.trans (f2.mono (B' := w.heap.size) (L' := []) F1.out.size (by simp)))
  clear f2 HG1 F1
  cases gv with
  | true =>
    go_wp2_with fail
    go_ret
    exact ⟨rfl, F2.out.below⟩
  | false => ?_
  obtain ⟨hl20, hsm, hk, hs20, hss⟩ := greatP_no (by rw [← HL.out, ← HP.out]; exact HGV.out.symm)
  have HSM := Lib.hid hsm
  have HSS := Lib.hid hss
  have HL20 := Lib.hid hl20
  have hn2 : n2 ≤ 20 := by rw [HNU.out]; exact hs20
  clear hl20 hsm hk hs20 hss HGV
  by_cases hm100 : 100 < m
  · have hmi : (100 : Int) < (m : Int) := by omega
    go_wp2_with fail
    go_ret
    exact ⟨rfl, F2.out.below⟩
  have hmi : ¬ (100 : Int) < (m : Int) := by omega
  have HN2 := Lib.hid (cnew_any A0 m k0 w.heap.size l w2 HM.out (by omega) (HR.out.fr F2.out (Nat.le_refl _) (by simp)) F2.out.size)
  go_wp2_with fail
  refine HN2.out.mono ?_
  rintro e w4 (⟨ha, rfl, f4⟩ | ⟨ha, rfl, hc4, f4⟩)
  · have F4 := Lib.hid (F2.out.trans (f4.mono (B' := w.heap.size) (L' := []) F2.out.size (by simp)))
    clear f4 ha HN2
    go_wp2_with fail
    go_ret
    exact ⟨by simp, F4.out.below⟩
  have F4 := Lib.hid (F2.out.trans (f4.mono (B' := w.heap.size) (L' := []) F2.out.size (by simp)))
  obtain ⟨gm, hgm⟩ : ∃ g, g = w2.heap.size := ⟨_, rfl⟩
  have hwg : w.heap.size ≤ gm := by rw [hgm]; exact F2.out.size
  rw [← hgm] at hc4
  obtain ⟨gt, hgt⟩ : ∃ g, g = gm + 1 := ⟨_, rfl⟩
  rw [← hgt] at hc4
  have HGM := Lib.hid hgm
  have HGT := Lib.hid hgt
  rw [← hgm, ← hgt]
  obtain ⟨T, hT⟩ : ∃ T, T = tabL l := ⟨_, rfl⟩
  rw [← hT] at hc4
  have HTK := Lib.hid (show TOk T by rw [hT]; exact tabL_ok _ _ TOk.zero ha)
  have HLN := Lib.hid (show (allT T).length ≤ 100 by rw [hT]; exact Nat.le_trans (allT_len l) (by rw [← HM.out]; omega))
  have HC4 := Lib.hid hc4
  obtain ⟨ra, hra⟩ : ∃ r, r = applyN L P := ⟨_, rfl⟩
  have HRA := Lib.hid hra
  clear f4 ha HN2 hgm hgt hc4 hT hmi hra F2
  obtain ⟨rb, hrb⟩ : ∃ r, r = applyR L P := ⟨_, rfl⟩
  have hag := apply_agree L P
  rw [← HRA.out, ← hrb] at hag
  obtain ⟨ha1, ha2, ha3⟩ := hag
  have HA1 := Lib.hid ha1
  have HA2 := Lib.hid ha2
  have HA3 := Lib.hid ha3
  have HRB := Lib.hid hrb
  have HRP := Lib.hid (fun (wx : World) (hx : Fr w.heap.size [] w wx) => (by rw [hrb, HL.out, HP.out]; exact rapply_any A A2 c c2 w.heap.size n n2 M S wx (H.out.frw hx (Nat.le_refl _) (by simp)) hx.size HSM.out (HST.out.frw hx (Nat.le_refl _) (by simp)) HSS.out (by omega) HCP.out hc HCS.out : Calls Tryz.prog 32 #[.slice A n c, .slice A2 n2 c2] wx (RApOut rb wx)))
  have HA4 := Lib.hid (call_any gt gm T HTK.out w4 HC4.out)
  obtain ⟨fv, hfv⟩ : ∃ b, b = fitsT L T := ⟨_, rfl⟩
  have HFV := Lib.hid hfv
  have HFT := Lib.hid (fun (wx : World) (hx : Fr w.heap.size [] w wx) (hcx : CT wx gt gm T) => (by rw [hfv, HL.out]; exact rmfits_any gt gm T HTK.out A c w.heap.size n M wx hcx (H.out.frw hx (Nat.le_refl _) (by simp)) hx.size HSM.out : Calls Tryz.prog 31 #[.pointer (some ⟨gt, 0, none⟩), .slice A n c] wx fun e w' => e = .returned (.bool fv) ∧ Fr wx.heap.size [] wx w'))
  have hgl : gm < w4.heap.size := HC4.out.mp.lt
  obtain ⟨q, hq⟩ : ∃ q, q = allT T := ⟨_, rfl⟩
  rw [← hq] at HA4
  have HQ := Lib.hid hq
  clear ha1 ha2 ha3 hrb hfv hq
  go_wp2_with fail
  refine HA4.out.mono ?_
  rintro e w5 ⟨A5, c5, rfl, r5, _, hA5, f5⟩
  have F5 := Lib.hid (F4.out.trans (f5.mono (B' := w.heap.size) (L' := []) F4.out.size (by simp)))
  have HC5 := Lib.hid (HC4.out.keep f5)
  have R5 := Lib.hid r5
  have HO5 := Lib.hid (show 0 < q.length → ∀ ad, A5 = some ad → ad.block ∉ [gm] from fun _ ad ha hm => by
    have := hA5 ad ha
    rw [List.mem_singleton] at hm
    omega)
  have HF5 := Lib.hid (HFT.out w5 F5.out HC5.out)
  clear f5 r5 hA5 HA4 HFT HC4 F4
  go_wp2_with fail
  refine HF5.out.mono ?_
  rintro e w6 ⟨rfl, f6⟩
  have F6 := Lib.hid (F5.out.trans (f6.mono (B' := w.heap.size) (L' := []) F5.out.size (by simp)))
  have HC6 := Lib.hid (HC5.out.keep f6)
  have R6 := Lib.hid ((R5.out.fr f6 (Nat.le_refl _) (by simp)).more f6.size)
  have HAP := Lib.hid (rmapply_any gt gm T HTK.out A A2 c c2 w.heap.size n n2 M S w6 HC6.out (H.out.frw F6.out (Nat.le_refl _) (by simp)) F6.out.size HSM.out (HST.out.frw F6.out (Nat.le_refl _) (by simp)) HSS.out (by omega) hwg)
  rw [← HL.out, ← HP.out, ← HRA.out] at HAP
  clear f6 HF5 F5 HC5 R5
  go_wp2_with fail
  refine HAP.out.mono ?_
  rintro e w7 (⟨e1, rfl, hc7, f7⟩ | ⟨e1, A7, c7, n7, M7, rfl, hn7, hf7, hr7, hc7, f7⟩)
  · have hcb := kd_ne e1
    have hcn : (ra.1 != 0) = true := by simpa using e1
    have F7 := Lib.hid (F6.out.trans (f7.mono (B' := w.heap.size) (L' := []) F6.out.size (by simp)))
    have HC7 := Lib.hid hc7
    have R7 := Lib.hid ((R6.out.fr f7 (Nat.le_refl _) (by simp)).more f7.size)
    have HR7 := Lib.hid (HRP.out w7 F7.out)
    clear f7 hc7 HAP F6 HC6 R6 HRP HO5
    go_wp2_with fail
    refine HR7.out.mono ?_
    intro e w8 h8
    obtain ⟨A8, c8, n8, rfl, f8, _⟩ := rapply_uni HRB.out h8
    have F8 := Lib.hid (F7.out.trans (f8.mono (B' := w.heap.size) (L' := []) F7.out.size (by simp)))
    have HC8 := Lib.hid (HC7.out.keep f8)
    have R8 := Lib.hid ((R7.out.fr f8 (Nat.le_refl _) (by simp)).more f8.size)
    have HA8 := Lib.hid (call_any gt gm T HTK.out w8 HC8.out)
    rw [← HQ.out] at HA8
    rw [← HA1.out, ← HA2.out]
    have hE1 := Lib.hid e1
    obtain ⟨a1, hq1⟩ : ∃ a, a = ra.1 := ⟨_, rfl⟩
    obtain ⟨a2, hq2⟩ : ∃ a, a = ra.2.1 := ⟨_, rfl⟩
    rw [← hq1] at hcb hcn e1
    rw [← hq1, ← hq2]
    clear f8 h8 HR7 F7 R7 HC7 hq1 hq2 e1
    go_wp2_with fail
    refine HA8.out.mono ?_
    rintro e w9 ⟨A9, c9, rfl, r9, _, _, f9⟩
    have F9 := Lib.hid (F8.out.trans (f9.mono (B' := w.heap.size) (L' := []) F8.out.size (by simp)))
    have HSA := Lib.hid (same_yes (c1 := c9) (c2 := c5) r9 (R8.out.fr f9 (Nat.le_refl _) (by simp)) (by rw [HQ.out]; exact HLN.out))
    clear f9 r9 HA8 F8 R8 HC8
    go_wp2_with fail
    refine HSA.out.mono ?_
    rintro e w10 ⟨rfl, f10⟩
    have F10 := Lib.hid (F9.out.trans (f10.mono (B' := w.heap.size) (L' := []) F9.out.size (by simp)))
    clear f10 HSA F9
    go_wp2_with fail
    go_ret
    exact ⟨by simp, F10.out.below⟩
  obtain ⟨T2, hT2⟩ : ∃ T2, T2 = kepL T P := ⟨_, rfl⟩
  have HK2 := Lib.hid (show TOk T2 by rw [hT2]; exact TOk.kepL HTK.out)
  have HL2 := Lib.hid (show (allT T2).length ≤ 100 by rw [hT2]; exact Nat.le_trans (kepL_len T P) HLN.out)
  have HKE := Lib.hid (show keptL q (fstS S) = allT T2 by rw [hT2, HQ.out, ← HP.out]; exact keptL_all P T)
  have HFX := Lib.hid (show fv = true → fitsT (fstN M7) T2 = true from fun h => by
    rw [hf7, hT2, HRA.out]
    rw [HRA.out] at e1
    exact fits_apply HTK.out (by rw [← HFV.out]; exact h) e1)
  rw [← hT2] at hc7
  have F7 := Lib.hid (F6.out.trans (f7.mono (B' := w.heap.size) (L' := []) F6.out.size (by simp; omega)))
  have HC7 := Lib.hid hc7
  have R7 := Lib.hid ((R6.out.frL f7 (Nat.le_refl _) HO5.out).more f7.size)
  have HR7 := Lib.hid (HRP.out w7 F7.out)
  have HN7 := Lib.hid hn7
  have HF7 := Lib.hid hf7
  have HG7 := Lib.hid hr7
  have E1 := Lib.hid e1
  clear f7 hc7 HAP F6 HC6 R6 HRP HO5 hT2 hn7 hf7 hr7 e1
  go_wp2_with fail
  refine HR7.out.mono ?_
  rintro e w8 (⟨h1, _⟩ | ⟨_, A8, c8, n8, M8, rfl, hn8, _, hf8, hr8, f8⟩)
  · exact absurd (HA1.out.symm.trans E1.out) h1
  have F8 := Lib.hid (F7.out.trans (f8.mono (B' := w.heap.size) (L' := []) F7.out.size (by simp)))
  have F78 := Lib.hid f8
  have HC8 := Lib.hid (HC7.out.keep f8)
  have R8 := Lib.hid ((R7.out.fr f8 (Nat.le_refl _) (by simp)).more f8.size)
  have HSN := Lib.hid (by
    obtain ⟨hpr, hpp⟩ := HA3.out E1.out
    have := rsame_any A7 A8 c7 c8 w8.heap.size n7 n8 M7 M8 w8 ((HN7.out.nds f8 (by simp)).more f8.size) hn8 (Nat.le_refl _) (small_right' HG7.out HF7.out) (small_right' hr8 hf8)
    rw [HF7.out, hf8, rsameL_perm hpp hpr.uni] at this
    exact this : Calls Tryz.prog 33 #[.slice A7 n7 c7, .slice A8 n8 c8] w8 fun e w' => e = .returned (.bool true) ∧ Fr w8.heap.size [] w8 w')
  clear f8 hn8 hf8 hr8 HR7 F7 R7 HC7
  go_wp2_with fail
  refine HSN.out.mono ?_
  rintro e w9 ⟨rfl, f9⟩
  have F9 := Lib.hid (F8.out.trans (f9.mono (B' := w.heap.size) (L' := []) F8.out.size (by simp)))
  have F79 := Lib.hid (F78.out.trans (f9.mono (B' := w7.heap.size) (L' := []) F78.out.size (by simp)))
  have HC9 := Lib.hid (HC8.out.keep f9)
  have R9 := Lib.hid ((R8.out.fr f9 (Nat.le_refl _) (by simp)).more f9.size)
  have HA9 := Lib.hid (call_any gt gm T2 HK2.out w9 HC9.out)
  clear f9 HSN F8 R8 HC8 F78
  go_wp2_with fail
  refine HA9.out.mono ?_
  rintro e w10 ⟨A10, c10, rfl, r10, _, _, f10⟩
  have F10 := Lib.hid (F9.out.trans (f10.mono (B' := w.heap.size) (L' := []) F9.out.size (by simp)))
  have F710 := Lib.hid (F79.out.trans (f10.mono (B' := w7.heap.size) (L' := []) F79.out.size (by simp)))
  have HC10 := Lib.hid (HC9.out.keep f10)
  have R10 := Lib.hid ((R9.out.fr f10 (Nat.le_refl _) (by simp)).more f10.size)
  have RA10 := Lib.hid r10
  have HKP := Lib.hid (by
    have := kept_any A5 A2 c5 c2 q.length n2 w10.heap.size q S w10 rfl (by have := HLN.out; rw [← HQ.out] at this; omega) R10.out (Nat.le_refl _) ((HST.out.frw F10.out (Nat.le_refl _) (by simp)).more F10.out.size) (by omega)
    rw [HKE.out] at this
    exact this : Calls Tryz.prog 34 #[.slice A5 q.length c5, .slice A2 n2 c2] w10 (KeptOut (allT T2) w10))
  clear f10 r10 HA9 F9 R9 HC9 F79
  go_wp2_with fail
  refine HKP.out.mono ?_
  rintro e w11 ⟨A11, c11, rfl, r11, f11⟩
  have F11 := Lib.hid (F10.out.trans (f11.mono (B' := w.heap.size) (L' := []) F10.out.size (by simp)))
  have F711 := Lib.hid (F710.out.trans (f11.mono (B' := w7.heap.size) (L' := []) F710.out.size (by simp)))
  have HC11 := Lib.hid (HC10.out.keep f11)
  have HSA := Lib.hid (same_yes (c1 := c10) (c2 := c11) (RA10.out.fr f11 (Nat.le_refl _) (by simp)) r11 HL2.out)
  clear f11 r11 HKP F10 R10 RA10 HC10 F710
  go_wp2_with fail
  refine HSA.out.mono ?_
  rintro e w12 ⟨rfl, f12⟩
  have F12 := Lib.hid (F11.out.trans (f12.mono (B' := w.heap.size) (L' := []) F11.out.size (by simp)))
  have F712 := Lib.hid (F711.out.trans (f12.mono (B' := w7.heap.size) (L' := []) F711.out.size (by simp)))
  have HC12 := Lib.hid (HC11.out.keep f12)
  clear f12 HSA F11 HC11 F711
  cases fv with
  | false =>
    go_wp2_with fail
    go_ret
    exact ⟨by simp, F12.out.below⟩
  | true => ?_
  have HFT := Lib.hid (by
    have := rmfits_any gt gm T2 HK2.out A7 c7 w7.heap.size n7 M7 w12 HC12.out (HN7.out.nds F712.out (by simp)) F712.out.size (small_right' HG7.out HF7.out)
    rw [HFX.out rfl] at this
    exact this : Calls Tryz.prog 31 #[.pointer (some ⟨gt, 0, none⟩), .slice A7 n7 c7] w12 fun e w' => e = .returned (.bool true) ∧ Fr w12.heap.size [] w12 w')
  go_wp2_with fail
  refine HFT.out.mono ?_
  rintro e w13 ⟨rfl, f13⟩
  have F13 := Lib.hid (F12.out.trans (f13.mono (B' := w.heap.size) (L' := []) F12.out.size (by simp)))
  clear f13 HFT F12
  go_wp2_with fail
  go_ret
  exact ⟨by simp, F13.out.below⟩
end Go.Proofs.YtfakgidimekikaaGreat
namespace Go.Proofs.YtfakgidimekikaaGreat
open Go.ChangeShapes Go.WideShapes Go.ChangeAt Go.RowKit Go.Fb
set_option linter.unusedVariables false

set_option maxRecDepth 100000 in
theorem lifted_RemapApplies (os : Os) (started : os.Started) (H : Type) (enc : TypeId × Value → H) :
    ReturnsInHanded {} Tryz.checked os 5 .any (Rows.remapAppliesSpec.pre6 enc Tryz.prog Tryz.f5 Rows.remapAppliesRow.domain false) (Rows.remapAppliesSpec.post enc Tryz.prog Tryz.f5 false true false false) := by
  refine returnsInHanded_of_change (C := Tryz.checked) (show ownKnob Tryz.prog.godebug = none by kernel_rfl) started (by kernel_rfl) Tryz.func5
    (ChangeSpec.witness6 (enc := enc) (C := Tryz.checked) false ⟨#[], #[.slice none 0 0, .slice none 0 0, .slice none 0 0], []⟩ 8 (by kernel_rfl) (by kernel_rfl) (by kernel_rfl) (by kernel_rfl)) ?_
  intro W base args ds gs before hval0 hW hcnd _
  have hval : ∀ (j : Nat) t v, Tryz.f5.params[j]? = some t → args[j]? = some v → Value.okWide Tryz.prog W .any base t v := hval0
  have hW' := hW
  obtain ⟨p, q, hA0, hV, rfl, hfz, hnd⟩ := hW
  have hA : DataW.TrodAll enc Tryz.prog W 0 (fun _ => true) true Tryz.f5.params.toList args.toList ds p := hA0
  rw [Tryz.params5] at hA hval
  obtain ⟨v0, vs0, d0, ds0, p0, q0, hargs, rfl, rfl, h0, r0'⟩ := trodAll_cons hA
  obtain ⟨v1, vs1, d1, ds1, p1, q1, rfl, rfl, rfl, h1, r1'⟩ := trodAll_cons r0'
  obtain ⟨v2, vs2, d2, ds2, p2, q2, rfl, rfl, rfl, h2, r2'⟩ := trodAll_cons r1'
  obtain ⟨rfl, rfl, rfl⟩ := trodAll_nil r2'
  obtain rfl : args = #[v0, v1, v2] := by cases args; simp_all
  obtain ⟨rfl, rfl⟩ := trodVars_none hV
  have k0 := h0
  have lt0 : ∀ x ∈ p0, x.block < W.heap.size := by obtain ⟨m, hm⟩ := k0; exact DataW.trod_lt m _ _ _ hm
  have k1 := h1
  have lt1 : ∀ x ∈ p1, x.block < W.heap.size := by obtain ⟨m, hm⟩ := k1; exact DataW.trod_lt m _ _ _ hm
  have k2 := h2
  have lt2 : ∀ x ∈ p2, x.block < W.heap.size := by obtain ⟨m, hm⟩ := k2; exact DataW.trod_lt m _ _ _ hm
  obtain ⟨A0, c0, e0, rfl, g0, m0, r0⟩ := arg_ents (hval 0 33 v0 rfl rfl) h0
  obtain ⟨A1, n1, c1, M1, rfl, l1, m1, r1, wf1⟩ := arg_nodes (hval 1 34 v1 rfl rfl) h1
  obtain ⟨A2, n2, c2, M2, rfl, l2, m2, r2, wf2⟩ := arg_steps (hval 2 35 v2 rfl rfl) h2
  clear hA0 hval0
  refine (walk_RemapApplies A0 e0.length c0 e0 rfl g0 m0 A1 n1 c1 M1 l1 m1 A2 n2 c2 M2 l2 m2 W r0 r1 wf1.cap r2 wf2.cap).mono fun e W' ⟨he, bel⟩ => ?_
  subst he
  exact ⟨_, rfl, _, _, _, [], _, [], hW', trodAll_mk1 (shut_bool Tryz.underlying4 _), (trodAll_cons_mk (Below.trod (show laidOutB Tryz.prog = true by kernel_rfl) (by kernel_rfl) (of_decide_eq_true (by kernel_rfl)) k0 bel lt0) (trodAll_cons_mk (Below.trod (show laidOutB Tryz.prog = true by kernel_rfl) (by kernel_rfl) (of_decide_eq_true (by kernel_rfl)) k1 bel lt1) (trodAll_cons_mk (Below.trod (show laidOutB Tryz.prog = true by kernel_rfl) (by kernel_rfl) (of_decide_eq_true (by kernel_rfl)) k2 bel lt2) trodAll_mk0))), rfl, bel.frame _, fun h => by cases h⟩

theorem RemapApplies_holds : Rows.RemapAppliesSaid :=
  OpenClaim.holds_of_wide 5 Tryz.f5 rfl rfl rfl rfl rfl rfl rfl ⟨rfl, rfl, rfl, rfl, rfl⟩ rfl rfl rfl rfl rfl (by kernel_rfl) Tryz.func5 (by kernel_rfl)
    (of_decide_eq_true (by kernel_rfl)) (by unfold Func.isWrapper; first | (rw [if_pos (by decide +kernel)]; kernel_rfl) | (rw [if_neg (by decide +kernel)]; exact ⟨rfl, rfl⟩))
    (fun os started H enc _ => lifted_RemapApplies os started H enc)
#print axioms RemapApplies_holds
end Go.Proofs.YtfakgidimekikaaGreat
