/- forebaylaw10.PlanUndoes: for every input the call returns true, and each argument reads behind it as it read before. The walk lies in the text that this one imports; here it is lifted to the given row. -/
import Derived.Test.YtklhhcflpffojaaMI
import Derived.Test.YtklhhcflpffojaaMUnd
import Derived.Test.YtklhhcflpffojaaMG
import Derived.Test.YtklhhcflpffojaaMA
import Derived.Test.YtklhhcflpffojaaMArgs
import Derived.Test.YtklhhcflpffojaaMStsA
import Derived.Deep.DeepCutAuto
namespace Go.Proofs.Ytklhhcflpffojaa
open Go.RowKit Go.Fb
set_option linter.unusedVariables false
set_option maxRecDepth 100000 in
set_option maxHeartbeats 16000000 in
theorem walk_PlanUndoes (A : Option Addr) (n c : Nat) (M : List Ndm) (hc : n ≤ c) (hm : c ≤ maxLen) (A2 : Option Addr) (n2 c2 : Nat) (S : List Stm) (hc2 : n2 ≤ c2) (hm2 : c2 ≤ maxLen) (w : World) (h : Nds w w.heap.size A n M) (hcap : CapN M) (hS : Sts w w.heap.size A2 n2 S) (hcs : ∀ m ∈ S, ∀ A n c, m.2.1 = .slice A n c → n ≤ c) :
    Calls Try.prog 8 #[.slice A n c, .slice A2 n2 c2] w fun e w' => e = .returned (.bool true) ∧ Below w.heap.size w w' := by
  obtain ⟨L, hL⟩ : ∃ L, L = fstN M := ⟨_, rfl⟩
  obtain ⟨P, hP⟩ : ∃ P, P = fstS S := ⟨_, rfl⟩
  obtain ⟨gv, hgv⟩ : ∃ v, v = greatP L P := ⟨_, rfl⟩
  have HG := Lib.hid (fun (wx : World) (hx : Fr w.heap.size [] w wx) => (by rw [hgv, hL, hP]; exact great10_any A A2 c c2 w.heap.size n n2 M S wx (h.frw hx (Nat.le_refl _) (by simp)) hx.size (by omega) (hS.frw hx (Nat.le_refl _) (by simp)) (by omega) : Calls Try.prog 10 #[.slice A n c, .slice A2 n2 c2] wx fun e w' => e = .returned (.bool gv) ∧ Fr wx.heap.size [] wx w'))
  have HA := Lib.hid (awake10_any w)
  have HL := Lib.hid hL
  have HP := Lib.hid hP
  have HGV := Lib.hid hgv
  have H := Lib.hid h
  have HST := Lib.hid hS
  have HCP := Lib.hid hcap
  have HCS := Lib.hid hcs
  have HNU := Lib.hid hS.num
  clear hL hP hgv h hS hcap hcs
  go_enter Try.func8, Try.ntmps8
  go_wp2_with fail
  refine HA.out.mono ?_
  rintro e w1 ⟨rfl, f1⟩
  have F1 := Lib.hid f1
  have HG1 := Lib.hid (HG.out w1 f1)
  clear f1 HA HG
  go_wp2_with fail
  refine HG1.out.mono ?_
  rintro e w2 ⟨rfl, f2⟩
  have F2 := Lib.hid (F1.out.trans (f2.mono (B' := w.heap.size) (L' := []) F1.out.size (by simp)))
  clear f2 HG1 F1
  cases gv with
  | true =>
    go_wp2_with fail
    go_ret
    exact ⟨rfl, F2.out.below⟩
  | false => ?_
  obtain ⟨hl20, hsm, hk, hs20, hss⟩ := greatP_no (by rw [← HL.out, ← HP.out]; exact HGV.out.symm)
  have HSM := Lib.hid hsm
  have HK := Lib.hid hk
  have HSS := Lib.hid hss
  have hn2 : n2 ≤ 20 := by rw [HNU.out]; exact hs20
  obtain ⟨ra, hra⟩ : ∃ r, r = applyN L P := ⟨_, rfl⟩
  have HAP := Lib.hid (fun (wx : World) (hx : Fr w.heap.size [] w wx) => (by rw [hra, HL.out, HP.out]; exact papply_any A A2 c c2 w.heap.size n n2 M S wx (H.out.frw hx (Nat.le_refl _) (by simp)) hx.size hsm (HST.out.frw hx (Nat.le_refl _) (by simp)) hss (by omega) : Calls Try.prog 11 #[.slice A n c, .slice A2 n2 c2] wx (ApOut ra wx)))
  have HUD := Lib.hid (by rw [hra, HL.out, HP.out]; exact undo_any A A2 c c2 w.heap.size n n2 M S w2 (H.out.frw F2.out (Nat.le_refl _) (by simp)) F2.out.size hsm (HST.out.frw F2.out (Nat.le_refl _) (by simp)) hss (by omega) hk : Calls Try.prog 29 #[.slice A n c, .slice A2 n2 c2] w2 (UndoOut L P ra.1 w2))
  have HID := Lib.hid (fun (wx : World) (hx : Fr w.heap.size [] w wx) => (by rw [HL.out, HP.out]; exact idle_any A A2 c c2 w.heap.size n n2 M S wx (H.out.frw hx (Nat.le_refl _) (by simp)) hx.size hsm (HST.out.frw hx (Nat.le_refl _) (by simp)) hss (by omega) : Calls Try.prog 16 #[.slice A n c, .slice A2 n2 c2] wx fun e w' => e = .returned (.bool (idleN L P)) ∧ Fr wx.heap.size [] wx w'))
  obtain ⟨iv, hiv⟩ : ∃ b, b = idleN L P := ⟨_, rfl⟩
  rw [← hiv] at HID
  obtain ⟨al, hal⟩ : ∃ b, b = P.all fun s => decide (s.kind = 4) := ⟨_, rfl⟩
  have HIV := Lib.hid (show iv = (decide (ra.1 = 0) && al) by
    rw [hiv, hal, hra]
    unfold idleN
    congr 1
    rw [List.not_any_eq_all_not]
    simp)
  have HAL := Lib.hid hal
  have HRA := Lib.hid hra
  have hpl : P.length = n2 := by rw [HP.out, HNU.out]; simp [fstS]
  have HPL := Lib.hid hpl
  have HL20 := Lib.hid hl20
  clear hra hsm hk hss hiv hl20 hs20 hal hpl
  go_wp2_with fail
  refine HUD.out.mono ?_
  intro e w3 h3
  have HF3 := Lib.hid h3.1
  have F3 := Lib.hid (F2.out.trans (h3.1.mono (B' := w.heap.size) (L' := []) F2.out.size (by simp)))
  have HAP3 := Lib.hid (HAP.out w3 F3.out)
  unfold UndoOut at h3
  rw [← HAL.out] at h3
  clear HUD HAP F2
  rcases h3 with ⟨_, ⟨e1, rfl⟩ | ⟨e1, e2, rfl⟩ | ⟨e1, e2, A5, c5, n5, S5, rfl, hS5, hf5, hs5⟩⟩
  · have hcb := kd_ne e1
    have hcn : (ra.1 != 0) = true := by simpa using e1
    clear e1
    go_wp2_with fail
    refine HAP3.out.mono ?_
    intro e w4 h4
    obtain ⟨A4, c4, n4, rfl, f4, _, _⟩ := apply_uni HRA.out h4
    have F4 := Lib.hid (F3.out.trans (f4.mono (B' := w.heap.size) (L' := []) F3.out.size (by simp)))
    clear h4 f4 HAP3 F3
    go_wp2_with fail
    go_ret
    exact ⟨by simp, F4.out.below⟩
  · have HV := Lib.hid (show iv = false by rw [HIV.out, e2]; simp)
    go_wp2_with fail
    refine HAP3.out.mono ?_
    intro e w4 h4
    obtain ⟨A4, c4, n4, rfl, f4, _, _⟩ := apply_uni HRA.out h4
    have F4 := Lib.hid (F3.out.trans (f4.mono (B' := w.heap.size) (L' := []) F3.out.size (by simp)))
    have HI4 := Lib.hid (HID.out w4 F4.out)
    rw [e1]
    clear h4 f4 HAP3 F3 e1 e2
    go_wp2_with fail
    refine HI4.out.mono ?_
    rintro e w5 ⟨rfl, f5⟩
    have F5 := Lib.hid (F4.out.trans (f5.mono (B' := w.heap.size) (L' := []) F4.out.size (by simp)))
    rw [HV.out]
    clear f5 HI4 F4
    go_wp2_with fail
    go_ret
    exact ⟨by simp, F5.out.below⟩
  · have HV := Lib.hid (show iv = true by rw [HIV.out, e1, e2]; rfl)
    have hk4 : ∀ s ∈ P, s.kind = 4 := fun s hs => by
      have h5 := HAL.out.symm.trans e2
      rw [List.all_eq_true] at h5
      exact of_decide_eq_true (h5 s hs)
    obtain ⟨u1, u2, u3⟩ := undo_back (by rw [← HRA.out]; exact e1) hk4
    rw [← HRA.out] at u1 u2
    have hn5 : n5 ≤ n2 := by
      rw [hS5.num, ← HPL.out]
      have : S5.length = (fstS S5).length := by simp [fstS]
      rw [this, hf5]
      exact u3
    have HS5 := Lib.hid hS5
    have HF5 := Lib.hid hf5
    have HSS5 := Lib.hid hs5
    have HU1 := Lib.hid u1
    have HU2 := Lib.hid u2
    have E1 := Lib.hid e1
    clear hS5 hf5 hs5 u1 u2 u3 hk4 e2
    go_wp2_with fail
    refine HAP3.out.mono ?_
    intro e w4 h4
    obtain ⟨A4, c4, n4, rfl, f4, _, h4b⟩ := apply_uni HRA.out h4
    obtain ⟨_, M4, hn4, hf4, hr4⟩ := h4b e1
    have F4 := Lib.hid (F3.out.trans (f4.mono (B' := w.heap.size) (L' := []) F3.out.size (by simp)))
    have HI4 := Lib.hid (HID.out w4 F4.out)
    have HS54 := Lib.hid ((HS5.out.frw f4 (Nat.le_refl _) (by simp)).more f4.size)
    have HN4 := Lib.hid hn4
    have HF4 := Lib.hid hf4
    have HR4 := Lib.hid hr4
    rw [e1]
    clear h4 f4 HAP3 F3 e1 hn4 hf4 hr4 h4b HS5 HF3
    go_wp2_with fail
    refine HI4.out.mono ?_
    rintro e w5 ⟨rfl, f5⟩
    have F5 := Lib.hid (F4.out.trans (f5.mono (B' := w.heap.size) (L' := []) F4.out.size (by simp)))
    obtain ⟨rb, hrb⟩ : ∃ r, r = applyN ra.2.2 (undoL L P []) := ⟨_, rfl⟩
    have HRB := Lib.hid hrb
    have HAP5 := Lib.hid (by
      have := papply_any A4 A5 c4 c5 w4.heap.size n4 n5 M4 S5 w5 (HN4.out.nds f5 (by simp)) f5.size (small_right' HR4.out HF4.out) (HS54.out.frw f5 (Nat.le_refl _) (by simp)) HSS5.out (by omega)
      rw [HF4.out, HF5.out, ← hrb] at this
      exact this : Calls Try.prog 11 #[.slice A4 n4 c4, .slice A5 n5 c5] w5 (ApOut rb w5))
    have hrb1 : rb.1 = 0 := by rw [hrb]; exact HU1.out
    have HB1 := Lib.hid hrb1
    have HB2 := Lib.hid (show sameL rb.2.2 L = true by rw [hrb]; exact HU2.out)
    rw [HV.out]
    clear f5 HI4 F4 hrb hrb1
    go_wp2_with fail
    refine HAP5.out.mono ?_
    intro e w6 h6
    obtain ⟨A6, c6, n6, rfl, f6, _, h6b⟩ := apply_uni HRB.out h6
    obtain ⟨_, M6, hn6, hf6, hr6⟩ := h6b HB1.out
    have F6 := Lib.hid (F5.out.trans (f6.mono (B' := w.heap.size) (L' := []) F5.out.size (by simp)))
    have hl6 : n6 ≤ 20 := by
      have := hr6.len
      rw [← hf6] at this
      simp only [fstN, List.length_map] at this
      rw [hn6.num]; omega
    have HSA := Lib.hid (by
      have := gsame_any A6 A c6 c w6.heap.size n6 n M6 M w6 (hn6.nds (L := []) (Fr.refl _ _ _) (by simp)) ((H.out.frw F6.out (Nat.le_refl _) (by simp)).more F6.out.size) (Nat.le_refl _) (small_right' hr6 hf6) HSM.out hl6 (by rw [H.out.num]; exact HL20.out)
      rw [hf6, ← HL.out, HB2.out] at this
      exact this : Calls Try.prog 18 #[.slice A6 n6 c6, .slice A n c] w6 fun e w' => e = .returned (.bool true) ∧ Fr w6.heap.size [] w6 w')
    have hni : (n5 : Int) ≤ (n2 : Int) := by omega
    rw [HB1.out]
    clear h6 f6 h6b hn6 hf6 hr6 hl6 F5 HAP5
    go_wp2_with fail
    refine HSA.out.mono ?_
    rintro e w7 ⟨rfl, f7⟩
    have F7 := Lib.hid (F6.out.trans (f7.mono (B' := w.heap.size) (L' := []) F6.out.size (by simp)))
    clear f7 HSA F6
    go_wp2_with fail
    go_ret
    exact ⟨by simp, F7.out.below⟩
end Go.Proofs.Ytklhhcflpffojaa
namespace Go.Proofs.Ytklhhcflpffojaa
open Go.ChangeShapes Go.WideShapes Go.ChangeAt Go.RowKit Go.Fb
set_option linter.unusedVariables false

set_option maxRecDepth 100000 in
theorem lifted_PlanUndoes (os : Os) (started : os.Started) (H : Type) (enc : TypeId × Value → H) :
    ReturnsInHanded {} Try.checked os 8 .any (Rows.planUndoesSpec.pre6 enc Try.prog Try.f8 Rows.planUndoesRow.domain false) (Rows.planUndoesSpec.post enc Try.prog Try.f8 false true false false) := by
  refine returnsInHanded_of_change (C := Try.checked) (show ownKnob Try.prog.godebug = none by kernel_rfl) started (by kernel_rfl) Try.func8
    (ChangeSpec.witness6 (enc := enc) (C := Try.checked) false ⟨#[], #[.slice none 0 0, .slice none 0 0], []⟩ 8 (by kernel_rfl) (by kernel_rfl) (by kernel_rfl) (by kernel_rfl)) ?_
  intro W base args ds gs before hval0 hW hcnd _
  have hval : ∀ (j : Nat) t v, Try.f8.params[j]? = some t → args[j]? = some v → Value.okWide Try.prog W .any base t v := hval0
  have hW' := hW
  obtain ⟨p, q, hA0, hV, rfl, hfz, hnd⟩ := hW
  have hA : DataW.TrodAll enc Try.prog W 0 (fun _ => true) true Try.f8.params.toList args.toList ds p := hA0
  rw [Try.params8] at hA hval
  obtain ⟨v0, vs0, d0, ds0, p0, q0, hargs, rfl, rfl, h0, r0'⟩ := trodAll_cons hA
  obtain ⟨v1, vs1, d1, ds1, p1, q1, rfl, rfl, rfl, h1, r1'⟩ := trodAll_cons r0'
  obtain ⟨rfl, rfl, rfl⟩ := trodAll_nil r1'
  obtain rfl : args = #[v0, v1] := by cases args; simp_all
  obtain ⟨rfl, rfl⟩ := trodVars_none hV
  have k0 := h0
  have lt0 : ∀ x ∈ p0, x.block < W.heap.size := by obtain ⟨m, hm⟩ := k0; exact DataW.trod_lt m _ _ _ hm
  have k1 := h1
  have lt1 : ∀ x ∈ p1, x.block < W.heap.size := by obtain ⟨m, hm⟩ := k1; exact DataW.trod_lt m _ _ _ hm
  obtain ⟨A0, n0, c0, M0, rfl, l0, m0, r0, wf0⟩ := arg_nodes (hval 0 22 v0 rfl rfl) h0
  obtain ⟨A1, n1, c1, M1, rfl, l1, m1, r1, wf1⟩ := arg_steps (hval 1 23 v1 rfl rfl) h1
  clear hA0 hval0
  refine (walk_PlanUndoes A0 n0 c0 M0 l0 m0 A1 n1 c1 M1 l1 m1 W r0 wf0.cap r1 wf1.cap).mono fun e W' ⟨he, bel⟩ => ?_
  subst he
  exact ⟨_, rfl, _, _, _, [], _, [], hW', trodAll_mk1 (shut_bool Try.underlying4 _), (trodAll_cons_mk (Below.trod (show laidOutB Try.prog = true by kernel_rfl) (by kernel_rfl) (of_decide_eq_true (by kernel_rfl)) k0 bel lt0) (trodAll_cons_mk (Below.trod (show laidOutB Try.prog = true by kernel_rfl) (by kernel_rfl) (of_decide_eq_true (by kernel_rfl)) k1 bel lt1) trodAll_mk0)), rfl, bel.frame _, fun h => by cases h⟩

theorem PlanUndoes_holds : Rows.PlanUndoesSaid :=
  OpenClaim.holds_of_wide 8 Try.f8 rfl rfl rfl rfl rfl rfl rfl ⟨rfl, rfl, rfl, rfl, rfl⟩ rfl rfl rfl rfl rfl (by kernel_rfl) Try.func8 (by kernel_rfl)
    (of_decide_eq_true (by kernel_rfl)) (by unfold Func.isWrapper; first | (rw [if_pos (by decide +kernel)]; kernel_rfl) | (rw [if_neg (by decide +kernel)]; exact ⟨rfl, rfl⟩))
    (fun os started H enc _ => lifted_PlanUndoes os started H enc)
#print axioms PlanUndoes_holds
end Go.Proofs.Ytklhhcflpffojaa
