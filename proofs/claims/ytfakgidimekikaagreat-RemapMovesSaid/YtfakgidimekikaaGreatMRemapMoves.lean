/- forebaylaw11.RemapMoves: for every input the call returns true, and each argument reads behind it as it read before. The walk lies in the text that this one imports; here it is lifted to the given row. -/
import Derived.Test.YtfakgidimekikaaGreatMRm
import Derived.Test.YtfakgidimekikaaGreatMI
import Derived.Test.YtfakgidimekikaaGreatMEnt
import Derived.Test.YtfakgidimekikaaGreatMA
import Derived.Test.YtfakgidimekikaaGreatMArgs
import Derived.Test.YtfakgidimekikaaGreatMStsA
import Derived.Test.YtfakgidimekikaaGreatMEntA
import Derived.Deep.DeepCutAuto
namespace Go.Proofs.YtfakgidimekikaaGreat
open Go.RowKit Go.Fb
set_option linter.unusedVariables false
set_option maxRecDepth 100000 in
set_option maxHeartbeats 16000000 in
theorem walk_RemapMoves (A0 : Option Addr) (m k0 : Nat) (l : List (Nat → Int)) (hm : m = l.length) (hk0 : m ≤ k0) (hm0 : k0 ≤ maxLen) (A : Option Addr) (n c : Nat) (M : List Ndm) (hc : n ≤ c) (hmc : c ≤ maxLen) (A2 : Option Addr) (n2 c2 : Nat) (S : List Stm) (hc2 : n2 ≤ c2) (hm2 : c2 ≤ maxLen) (w : World) (hr : Reads w w.heap.size 6 A0 m (cellsE l)) (h : Nds w w.heap.size A n M) (hcap : CapN M) (hS : Sts w w.heap.size A2 n2 S) (hcs : ∀ m ∈ S, ∀ A n c, m.2.1 = .slice A n c → n ≤ c) :
    Calls Tryz.prog 4 #[.slice A0 m k0, .slice A n c, .slice A2 n2 c2] w fun e w' => e = .returned (.bool true) ∧ Below w.heap.size w w' := by
  obtain ⟨L, hL⟩ : ∃ L, L = fstN M := ⟨_, rfl⟩
  obtain ⟨P, hP⟩ : ∃ P, P = fstS S := ⟨_, rfl⟩
  obtain ⟨gv, hgv⟩ : ∃ v, v = greatP L P := ⟨_, rfl⟩
  have HG := Lib.hid (fun (wx : World) (hx : Fr w.heap.size [] w wx) => (by rw [hgv, hL, hP]; exact great10_any A A2 c c2 w.heap.size n n2 M S wx (h.frw hx (Nat.le_refl _) (by simp)) hx.size (by omega) (hS.frw hx (Nat.le_refl _) (by simp)) (by omega) : Calls Tryz.prog 24 #[.slice A n c, .slice A2 n2 c2] wx fun e w' => e = .returned (.bool gv) ∧ Fr wx.heap.size [] wx w'))
  have HA := Lib.hid (awake11_any w)
  have HL := Lib.hid hL
  have HP := Lib.hid hP
  have HGV := Lib.hid hgv
  have H := Lib.hid h
  have HST := Lib.hid hS
  have HNU := Lib.hid hS.num
  have HR := Lib.hid hr
  have HM := Lib.hid hm
  clear hL hP hgv h hS hcap hcs hr hm
  go_enter Tryz.func4, Tryz.ntmps4
  go_wp2_with fail
  refine HA.out.mono ?_
  rintro e w1 ⟨rfl, f1⟩
  have F1 := Lib.hid f1
  have HG1 := Lib.hid (HG.out w1 f1)
  clear f1 HA HG
  go_wp2_with fail
  refine HG1.out.mono ?_
  rintro e w2 ⟨rfl, f2⟩
  have F2 := Lib.hid (F1.out.trans (f2.mono (B' := w.heap.size) (L' := []) F1.out.size (by simp)))
  clear f2 HG1 F1
  cases gv with
  | true =>
    go_wp2_with fail
    go_ret
    exact ⟨rfl, F2.out.below⟩
  | false => ?_
  obtain ⟨hl20, hsm, hk, hs20, hss⟩ := greatP_no (by rw [← HL.out, ← HP.out]; exact HGV.out.symm)
  have HSM := Lib.hid hsm
  have HSS := Lib.hid hss
  have hn2 : n2 ≤ 20 := by rw [HNU.out]; exact hs20
  clear hl20 hsm hk hs20 hss HGV
  by_cases hm100 : 100 < m
  · have hmi : (100 : Int) < (m : Int) := by omega
    go_wp2_with fail
    go_ret
    exact ⟨rfl, F2.out.below⟩
  have hmi : ¬ (100 : Int) < (m : Int) := by omega
  have HNW := Lib.hid (fun (wx : World) (hx : Fr w.heap.size [] w wx) => cnew_any A0 m k0 w.heap.size l wx HM.out (by omega) (HR.out.fr hx (Nat.le_refl _) (by simp)) hx.size)
  have HNIL := Lib.hid (rmapply_nil (.slice A n c) (.slice A2 n2 c2))
  go_wp2_with fail
  refine (HNIL.out _).mono ?_
  rintro e w3 ⟨rfl, rfl⟩
  have HN2 := Lib.hid (HNW.out w2 F2.out)
  clear HNW HNIL hmi
  go_wp2_with fail
  refine HN2.out.mono ?_
  rintro e w4 (⟨ha, rfl, f4⟩ | ⟨ha, rfl, hc4, f4⟩)
  · have F4 := Lib.hid (F2.out.trans (f4.mono (B' := w.heap.size) (L' := []) F2.out.size (by simp)))
    clear f4 ha HN2
    go_wp2_with fail
    go_ret
    exact ⟨by simp, F4.out.below⟩
  have F4 := Lib.hid (F2.out.trans (f4.mono (B' := w.heap.size) (L' := []) F2.out.size (by simp)))
  have HAL := Lib.hid ha
  obtain ⟨gm, hgm⟩ : ∃ g, g = w2.heap.size := ⟨_, rfl⟩
  have hwg : w.heap.size ≤ gm := by rw [hgm]; exact F2.out.size
  rw [← hgm] at hc4
  obtain ⟨gt, hgt⟩ : ∃ g, g = gm + 1 := ⟨_, rfl⟩
  rw [← hgt] at hc4
  have HC4 := Lib.hid hc4
  have HGM := Lib.hid hgm
  have HGT := Lib.hid hgt
  have HID := Lib.hid (idle_any A A2 c c2 w.heap.size n n2 M S w4 (H.out.frw F4.out (Nat.le_refl _) (by simp)) F4.out.size HSM.out (HST.out.frw F4.out (Nat.le_refl _) (by simp)) HSS.out (by omega))
  clear f4 ha HN2 hgm hgt hc4
  rw [← HGM.out, ← HGT.out]
  obtain ⟨iv, hiv⟩ : ∃ b, b = idleN (fstN M) (fstS S) := ⟨_, rfl⟩
  rw [← hiv] at HID
  have HIV := Lib.hid hiv
  clear hiv
  go_wp2_with fail
  refine HID.out.mono ?_
  rintro e w5 ⟨rfl, f5⟩
  have F5 := Lib.hid (F4.out.trans (f5.mono (B' := w.heap.size) (L' := []) F4.out.size (by simp)))
  have HC5 := Lib.hid (HC4.out.keep f5)
  clear f5 HID F4 HC4
  cases iv with
  | false =>
    go_wp2_with fail
    go_ret
    exact ⟨by simp, F5.out.below⟩
  | true => ?_
  obtain ⟨e1, h4⟩ := idle_all HIV.out.symm
  obtain ⟨T, hT⟩ : ∃ T, T = tabL l := ⟨_, rfl⟩
  rw [← hT] at HC5
  have HTK := Lib.hid (show TOk T by rw [hT]; exact tabL_ok _ _ TOk.zero HAL.out)
  have HKE := Lib.hid (show kepL T (fstS S) = T from kepL_route h4)
  have HLN := Lib.hid (show (allT T).length ≤ 100 by rw [hT]; exact Nat.le_trans (allT_len l) (by rw [← HM.out]; omega))
  have E1 := Lib.hid e1
  have HA5 := Lib.hid (call_any gt gm T HTK.out w5 HC5.out)
  clear h4 e1 hT HIV HAL
  go_wp2_with fail
  refine HA5.out.mono ?_
  rintro e w6 ⟨A6, c6, rfl, r6, _, hA6, f6⟩
  have hgl : gm < w5.heap.size := HC5.out.mp.lt
  have F6 := Lib.hid (F5.out.trans (f6.mono (B' := w.heap.size) (L' := []) F5.out.size (by simp)))
  have HC6 := Lib.hid (HC5.out.keep f6)
  have R6 := Lib.hid r6
  have HO6 := Lib.hid (show 0 < (allT T).length → ∀ ad, A6 = some ad → ad.block ∉ [gm] from fun _ ad ha hm => by
    have := hA6 ad ha
    rw [List.mem_singleton] at hm
    omega)
  have HAP := Lib.hid (rmapply_any gt gm T HTK.out A A2 c c2 w.heap.size n n2 M S w6 HC6.out (H.out.frw F6.out (Nat.le_refl _) (by simp)) F6.out.size HSM.out (HST.out.frw F6.out (Nat.le_refl _) (by simp)) HSS.out (by omega) hwg)
  clear f6 r6 HA5 F5 HC5 hA6
  go_wp2_with fail
  refine HAP.out.mono ?_
  rintro e w7 (⟨e2, _⟩ | ⟨_, A7, c7, n7, M7, rfl, _, _, _, hc7, f7⟩)
  · exact absurd E1.out e2
  rw [HKE.out] at hc7
  have F7 := Lib.hid (F6.out.trans (f7.mono (B' := w.heap.size) (L' := []) F6.out.size (by simp; omega)))
  have HC7 := Lib.hid hc7
  have R7 := Lib.hid ((R6.out.frL f7 (Nat.le_refl _) HO6.out).more f7.size)
  have HA7 := Lib.hid (call_any gt gm T HTK.out w7 hc7)
  have HNS := Lib.hid (fun (V : Array Value) (W : World) => rmstep_nil V W)
  have HBS := Lib.hid (fun (W : World) (hc : CT W gt gm T) => (by
    have := rmstep_any gt gm T HTK.out ⟨6, ⟨0, 0, 0, [], [], fun _ => 0⟩, false⟩ (.slice none 0 0) (.slice none 0 0) W hc
    rw [show stpE ⟨6, ⟨0, 0, 0, [], [], fun _ => 0⟩, false⟩ = 11 from rfl] at this
    exact this.mono fun e w' h => ⟨h.1, h.2.2⟩ : Calls Tryz.prog 30 #[.pointer (some ⟨gt, 0, none⟩), .agg (stV ⟨6, ⟨0, 0, 0, [], [], fun _ => 0⟩, false⟩ (.slice none 0 0) (.slice none 0 0))] W fun e w' => e = .returned (.int .i64 11) ∧ Fr W.heap.size [gm] W w'))
  clear hc7 f7 HAP F6 HC6 R6 HO6
  go_wp2_with fail
  refine HA7.out.mono ?_
  rintro e w8 ⟨A8, c8, rfl, r8, _, _, f8⟩
  have F8 := Lib.hid (F7.out.trans (f8.mono (B' := w.heap.size) (L' := []) F7.out.size (by simp)))
  have HC8 := Lib.hid (HC7.out.keep f8)
  have HSA := Lib.hid (same_yes (c1 := c8) (c2 := c6) r8 (R7.out.fr f8 (Nat.le_refl _) (by simp)) HLN.out)
  clear f8 r8 HA7 F7 HC7 R7
  go_wp2_with fail
  refine HSA.out.mono ?_
  rintro e w9 ⟨rfl, f9⟩
  have F9 := Lib.hid (F8.out.trans (f9.mono (B' := w.heap.size) (L' := []) F8.out.size (by simp)))
  have HC9 := Lib.hid (HC8.out.keep f9)
  clear f9 HSA F8 HC8
  go_wp2_with fail
  refine (HNS.out _ _).mono ?_
  rintro e w10 ⟨rfl, f10⟩
  have F10 := Lib.hid (F9.out.trans (f10.mono (B' := w.heap.size) (L' := []) F9.out.size (by simp)))
  have HB10 := Lib.hid (HBS.out w10 (HC9.out.keep f10))
  clear f10 F9 HC9 HBS HNS
  go_wp2_with fail
  refine HB10.out.mono ?_
  rintro e w11 ⟨rfl, f11⟩
  have F11 := Lib.hid (F10.out.trans (f11.mono (B' := w.heap.size) (L' := []) F10.out.size (by simp; omega)))
  clear f11 F10 HB10
  go_wp2_with fail
  go_ret
  exact ⟨by simp, F11.out.below⟩
end Go.Proofs.YtfakgidimekikaaGreat
namespace Go.Proofs.YtfakgidimekikaaGreat
open Go.ChangeShapes Go.WideShapes Go.ChangeAt Go.RowKit Go.Fb
set_option linter.unusedVariables false

set_option maxRecDepth 100000 in
theorem lifted_RemapMoves (os : Os) (started : os.Started) (H : Type) (enc : TypeId × Value → H) :
    ReturnsInHanded {} Tryz.checked os 4 .any (Rows.remapMovesSpec.pre6 enc Tryz.prog Tryz.f4 Rows.remapMovesRow.domain false) (Rows.remapMovesSpec.post enc Tryz.prog Tryz.f4 false true false false) := by
  refine returnsInHanded_of_change (C := Tryz.checked) (show ownKnob Tryz.prog.godebug = none by kernel_rfl) started (by kernel_rfl) Tryz.func4
    (ChangeSpec.witness6 (enc := enc) (C := Tryz.checked) false ⟨#[], #[.slice none 0 0, .slice none 0 0, .slice none 0 0], []⟩ 8 (by kernel_rfl) (by kernel_rfl) (by kernel_rfl) (by kernel_rfl)) ?_
  intro W base args ds gs before hval0 hW hcnd _
  have hval : ∀ (j : Nat) t v, Tryz.f4.params[j]? = some t → args[j]? = some v → Value.okWide Tryz.prog W .any base t v := hval0
  have hW' := hW
  obtain ⟨p, q, hA0, hV, rfl, hfz, hnd⟩ := hW
  have hA : DataW.TrodAll enc Tryz.prog W 0 (fun _ => true) true Tryz.f4.params.toList args.toList ds p := hA0
  rw [Tryz.params4] at hA hval
  obtain ⟨v0, vs0, d0, ds0, p0, q0, hargs, rfl, rfl, h0, r0'⟩ := trodAll_cons hA
  obtain ⟨v1, vs1, d1, ds1, p1, q1, rfl, rfl, rfl, h1, r1'⟩ := trodAll_cons r0'
  obtain ⟨v2, vs2, d2, ds2, p2, q2, rfl, rfl, rfl, h2, r2'⟩ := trodAll_cons r1'
  obtain ⟨rfl, rfl, rfl⟩ := trodAll_nil r2'
  obtain rfl : args = #[v0, v1, v2] := by cases args; simp_all
  obtain ⟨rfl, rfl⟩ := trodVars_none hV
  have k0 := h0
  have lt0 : ∀ x ∈ p0, x.block < W.heap.size := by obtain ⟨m, hm⟩ := k0; exact DataW.trod_lt m _ _ _ hm
  have k1 := h1
  have lt1 : ∀ x ∈ p1, x.block < W.heap.size := by obtain ⟨m, hm⟩ := k1; exact DataW.trod_lt m _ _ _ hm
  have k2 := h2
  have lt2 : ∀ x ∈ p2, x.block < W.heap.size := by obtain ⟨m, hm⟩ := k2; exact DataW.trod_lt m _ _ _ hm
  obtain ⟨A0, c0, e0, rfl, g0, m0, r0⟩ := arg_ents (hval 0 33 v0 rfl rfl) h0
  obtain ⟨A1, n1, c1, M1, rfl, l1, m1, r1, wf1⟩ := arg_nodes (hval 1 34 v1 rfl rfl) h1
  obtain ⟨A2, n2, c2, M2, rfl, l2, m2, r2, wf2⟩ := arg_steps (hval 2 35 v2 rfl rfl) h2
  clear hA0 hval0
  refine (walk_RemapMoves A0 e0.length c0 e0 rfl g0 m0 A1 n1 c1 M1 l1 m1 A2 n2 c2 M2 l2 m2 W r0 r1 wf1.cap r2 wf2.cap).mono fun e W' ⟨he, bel⟩ => ?_
  subst he
  exact ⟨_, rfl, _, _, _, [], _, [], hW', trodAll_mk1 (shut_bool Tryz.underlying4 _), (trodAll_cons_mk (Below.trod (show laidOutB Tryz.prog = true by kernel_rfl) (by kernel_rfl) (of_decide_eq_true (by kernel_rfl)) k0 bel lt0) (trodAll_cons_mk (Below.trod (show laidOutB Tryz.prog = true by kernel_rfl) (by kernel_rfl) (of_decide_eq_true (by kernel_rfl)) k1 bel lt1) (trodAll_cons_mk (Below.trod (show laidOutB Tryz.prog = true by kernel_rfl) (by kernel_rfl) (of_decide_eq_true (by kernel_rfl)) k2 bel lt2) trodAll_mk0))), rfl, bel.frame _, fun h => by cases h⟩

theorem RemapMoves_holds : Rows.RemapMovesSaid :=
  OpenClaim.holds_of_wide 4 Tryz.f4 rfl rfl rfl rfl rfl rfl rfl ⟨rfl, rfl, rfl, rfl, rfl⟩ rfl rfl rfl rfl rfl (by kernel_rfl) Tryz.func4 (by kernel_rfl)
    (of_decide_eq_true (by kernel_rfl)) (by unfold Func.isWrapper; first | (rw [if_pos (by decide +kernel)]; kernel_rfl) | (rw [if_neg (by decide +kernel)]; exact ⟨rfl, rfl⟩))
    (fun os started H enc _ => lifted_RemapMoves os started H enc)
#print axioms RemapMoves_holds
end Go.Proofs.YtfakgidimekikaaGreat
