/- forebaylaw10.PlanKeeps: for every input the call returns true, and each argument reads behind it as it read before. The walk lies in the text that this one imports; here it is lifted to the given row. -/
import Derived.Test.YtfakgidimekikaaMPkP
import Derived.Test.YtfakgidimekikaaMI
import Derived.Test.YtfakgidimekikaaMG
import Derived.Test.YtfakgidimekikaaMF
import Derived.Test.YtfakgidimekikaaMA
import Derived.Test.YtfakgidimekikaaMArgs
import Derived.Test.YtfakgidimekikaaMStsA
import Derived.Deep.DeepCutAuto
import Derived.Deep.RegionHeld3
namespace Go.Proofs.Ytfakgidimekikaa
open Go.RowKit Go.Fb
set_option linter.unusedVariables false
theorem sameNd_self (x : Nd) : sameNd x x = true := by
  unfold sameNd rt8B
  simp
set_option maxRecDepth 100000 in
set_option maxHeartbeats 16000000 in
theorem walk_PlanKeeps (A : Option Addr) (n c : Nat) (M : List Ndm) (hc : n ≤ c) (hm : c ≤ maxLen) (A2 : Option Addr) (n2 c2 : Nat) (S : List Stm) (hc2 : n2 ≤ c2) (hm2 : c2 ≤ maxLen) (w : World) (h : Nds w w.heap.size A n M) (hcap : CapN M) (hS : Sts w w.heap.size A2 n2 S) (hcs : ∀ m ∈ S, ∀ A n c, m.2.1 = .slice A n c → n ≤ c) :
    Calls Try.prog 3 #[.slice A n c, .slice A2 n2 c2] w fun e w' => e = .returned (.bool true) ∧ Below w.heap.size w w' := by
  obtain ⟨L, hL⟩ : ∃ L, L = fstN M := ⟨_, rfl⟩
  obtain ⟨P, hP⟩ : ∃ P, P = fstS S := ⟨_, rfl⟩
  obtain ⟨gv, hgv⟩ : ∃ v, v = greatP L P := ⟨_, rfl⟩
  have HG := Lib.hid (fun (wx : World) (hx : Fr w.heap.size [] w wx) => (by rw [hgv, hL, hP]; exact great10_any A A2 c c2 w.heap.size n n2 M S wx (h.frw hx (Nat.le_refl _) (by simp)) hx.size (by omega) (hS.frw hx (Nat.le_refl _) (by simp)) (by omega) : Calls Try.prog 5 #[.slice A n c, .slice A2 n2 c2] wx fun e w' => e = .returned (.bool gv) ∧ Fr wx.heap.size [] wx w'))
  have HA := Lib.hid (awake10_any w)
  have HL := Lib.hid hL
  have HP := Lib.hid hP
  have HGV := Lib.hid hgv
  have H := Lib.hid h
  have HST := Lib.hid hS
  have HNU := Lib.hid hS.num
  clear hL hP hgv h hS hcap hcs
  go_enter Try.func3, Try.ntmps3
  go_wp2_with fail
  refine HA.out.mono ?_
  rintro e w1 ⟨rfl, f1⟩
  have F1 := Lib.hid f1
  have HG1 := Lib.hid (HG.out w1 f1)
  clear f1 HA HG
  go_wp2_with fail
  refine HG1.out.mono ?_
  rintro e w2 ⟨rfl, f2⟩
  have F2 := Lib.hid (F1.out.trans (f2.mono (B' := w.heap.size) (L' := []) F1.out.size (by simp)))
  clear f2 HG1 F1
  cases gv with
  | true =>
    go_wp2_with fail
    go_ret
    exact ⟨rfl, F2.out.below⟩
  | false => ?_
  obtain ⟨hl20, hsm, hk, hs20, hss⟩ := greatP_no (by rw [← HL.out, ← HP.out]; exact HGV.out.symm)
  have HSM := Lib.hid hsm
  have HSS := Lib.hid hss
  have hn2 : n2 ≤ 20 := by rw [HNU.out]; exact hs20
  have hn20 : n ≤ 20 := by rw [H.out.num]; exact hl20
  have HNM := Lib.hid (norm_any A c w.heap.size n M w2 (H.out.frw F2.out (Nat.le_refl _) (by simp)) F2.out.size hsm hn20)
  rw [← HL.out] at HNM
  obtain ⟨ra, hra⟩ : ∃ r, r = applyN L P := ⟨_, rfl⟩
  have HRA := Lib.hid hra
  have HAP := Lib.hid (fun (wx : World) (hx : Fr w.heap.size [] w wx) => (by rw [hra, HL.out, HP.out]; exact papply_any A A2 c c2 w.heap.size n n2 M S wx (H.out.frw hx (Nat.le_refl _) (by simp)) hx.size hsm (HST.out.frw hx (Nat.le_refl _) (by simp)) hss (by omega) : Calls Try.prog 7 #[.slice A n c, .slice A2 n2 c2] wx (ApOut ra wx)))
  clear hl20 hsm hk hs20 hss HGV hra
  go_wp2_with fail
  refine HNM.out.mono ?_
  rintro e w3 ⟨An, cn, nn, MN, hnn, rfl, hown, hnmi, hfst, f3⟩
  have HW := Lib.hid (Nmd.mk hnn hown hnmi)
  have HWF := Lib.hid hfst
  have F3 := Lib.hid (F2.out.trans (f3.mono (B' := w.heap.size) (L' := []) F2.out.size (by simp)))
  have hnn20 : nn ≤ 20 := by
    have h1 := congrArg List.length hfst
    rw [normL_len] at h1
    simp only [HL.out, fstN, List.length_map] at h1
    rw [hnn, h1, ← H.out.num]
    exact hn20
  have HA3 := Lib.hid (HAP.out w3 F3.out)
  clear hnn hown hnmi hfst f3 HNM F2 HAP
  go_wp2_with fail
  refine HA3.out.mono ?_
  intro e w4 h4
  obtain ⟨A4, c4, n4, rfl, f4, h4a, h4b⟩ := apply_uni HRA.out h4
  have F4 := Lib.hid (F3.out.trans (f4.mono (B' := w.heap.size) (L' := []) F3.out.size (by simp)))
  have F34 := Lib.hid f4
  have H4A := Lib.hid h4a
  have H4B := Lib.hid h4b
  have HSA := Lib.hid (fun (wx : World) (hx : Fr w.heap.size [] w wx) (hy : Fr w3.heap.size [] w3 wx) => (by
    have := gsame_any A An c cn wx.heap.size n nn M MN wx ((H.out.frw hx (Nat.le_refl _) (by simp)).more hx.size) ((HW.out.nds hy (by simp)).more hy.size) (Nat.le_refl _) HSM.out (small_norm HSM.out (by rw [← HL.out]; exact HWF.out)) hn20 hnn20
    rw [HWF.out, ← HL.out, same_norm' L] at this
    exact this : Calls Try.prog 8 #[.slice A n c, .slice An nn cn] wx fun e w' => e = .returned (.bool true) ∧ Fr wx.heap.size [] wx w'))
  have HS4 := Lib.hid (HSA.out w4 F4.out f4)
  clear h4 h4a h4b f4 HA3
  go_wp2_with fail
  refine HS4.out.mono ?_
  rintro e w5 ⟨rfl, f5⟩
  have F5 := Lib.hid (F4.out.trans (f5.mono (B' := w.heap.size) (L' := []) F4.out.size (by simp)))
  have F35 := Lib.hid (F34.out.trans (f5.mono (B' := w3.heap.size) (L' := []) F34.out.size (by simp)))
  have F45 := Lib.hid f5
  clear f5 HS4
  go_wp2_with fail
  go_loopg [9, 11, 40] n2 (fun g s9 s11 s40 wr => ∃ (k : Nat) (A' : Option Addr) (c' : Nat) (S' : List Stm), k ≤ n2 ∧ g = n2 - k ∧ s9 = .slice A' k c' ∧ s40 = .int .i64 k ∧ (s11 = undef ∨ ∃ a, s11 = .pointer a) ∧ RowKit.Hid (k = S'.length) ∧ RowKit.Hid (fstS S' = (P.take k).map cleanS) ∧ RowKit.Hid (wr.ownsRow w5.heap.size 37 15 (.slice A' k c') k (cellsS S')) ∧ RowKit.Hid (∀ m ∈ S', SmO (Value.ownBlock (.slice A' k c')) wr m) ∧ RowKit.Hid (Fr w5.heap.size [] w5 wr))
  case atStart => exact ⟨0, none, 0, [], Nat.zero_le _, rfl, rfl, rfl, .inl rfl, Lib.hid rfl, Lib.hid rfl, Lib.hid (World.ownsRow_nil _ _ _ _), Lib.hid (fun _ h => by cases h), Lib.hid (Fr.refl _ _ _)⟩
  case round =>
    obtain ⟨k, A', c', S', hk, rfl, rfl, rfl, h11, HK, HQ, HO, HI, FR⟩ := hrel
    have FW := Lib.hid (F5.out.trans (FR.out.mono (B' := w.heap.size) (L' := []) F5.out.size (by simp)))
    by_cases hkn : k < n2
    · have hki : (k : Int) < (n2 : Int) := by omega
      have hk0 : (0 : Int) ≤ (k : Int) := by omega
      obtain ⟨m, hx⟩ : ∃ m, S[k]? = some m := ⟨_, List.getElem?_eq_getElem (by rw [← HNU.out]; exact hkn)⟩
      have HSW := HST.out.frw FW.out (Nat.le_refl _) (by simp)
      obtain ⟨b1, o1, rfl, hb1, hc1⟩ := HSW.get hx
      have hin := HSW.inn m (List.mem_of_getElem? hx)
      have hsm := HSS.out m (List.mem_of_getElem? hx)
      have HTK := Lib.hid (show (P.take (k + 1)).map cleanS = (P.take k).map cleanS ++ [cleanS m.1] by
        have : P[k]? = some m.1 := by rw [HP.out]; simp [fstS, hx]
        rw [List.take_add_one, this, List.map_append]; rfl)
      have hlen := clean_len m.1
      obtain ⟨⟨kd, y, rs⟩, sf, sp⟩ := m
      simp only at hin HTK hsm hlen
      have fa0 := (Fr.refl wr.heap.size [] wr).alloc (Nat.le_refl _) (.cells (stA kd y rs sf sp) 37)
      have hBr : w.heap.size ≤ wr.heap.size := FW.out.size
      have HCL := clean_any kd y rs sf sp w.heap.size (wr.alloc (.cells (stA kd y rs sf sp) 37)) (hin.frw fa0 hBr (by simp)) (Nat.le_trans hBr fa0.size) (by omega) (by omega)
      obtain ⟨⟨Af, cf, hf1, hf2⟩, ⟨Ap, cp, hp1, hp2⟩⟩ := hin
      simp only at hf1 hp1 hf2 hp2
      subst hf1
      subst hp1
      clear hf2 hp2 fa0
      obtain ⟨cs, hcs⟩ : ∃ z, z = cleanS ⟨kd, y, rs⟩ := ⟨_, rfl⟩
      unfold CleanOut at HCL
      rw [← hcs] at HCL HTK
      obtain ⟨nf, hnf⟩ : ∃ z, z = y.fr.length := ⟨_, rfl⟩
      obtain ⟨np, hnp⟩ : ∃ z, z = y.pg.length := ⟨_, rfl⟩
      rw [← hnf, ← hnp] at hc1 HCL
      have HCL := Lib.hid HCL
      have p0 := hc1 0 (.int .i64 kd) rfl
      have p1 := hc1 1 (.int .i64 y.id) rfl
      have p2 := hc1 2 (.int .i64 y.kind) rfl
      have p3 := hc1 3 (.slice Af nf cf) rfl
      have p4 := hc1 4 (.slice Ap np cp) rfl
      have p5 := hc1 5 (.int .i64 y.par) rfl
      have p6 := hc1 6 (.int .i64 (y.rt 0)) rfl
      have p7 := hc1 7 (.int .i64 (y.rt 1)) rfl
      have p8 := hc1 8 (.int .i64 (y.rt 2)) rfl
      have p9 := hc1 9 (.int .i64 (y.rt 3)) rfl
      have p10 := hc1 10 (.int .i64 (y.rt 4)) rfl
      have p11 := hc1 11 (.int .i64 (y.rt 5)) rfl
      have p12 := hc1 12 (.int .i64 (y.rt 6)) rfl
      have p13 := hc1 13 (.int .i64 (y.rt 7)) rfl
      have p14 := hc1 14 (.bool rs) rfl
      simp only [Nat.add_zero] at p0
      clear hc1 hx HSW hnf hnp hcs hsm hlen
      have fa := (Fr.refl wr.heap.size [] wr).alloc (Nat.le_refl _) (.cells (stA kd y rs (.slice Af nf cf) (.slice Ap np cp)) 37)
      have BX := Lib.hid (Blk.new wr 37 (stA kd y rs (.slice Af nf cf) (.slice Ap np cp)))
      have FRa := Lib.hid (FR.out.trans (fa.mono (B' := w5.heap.size) (L' := []) FR.out.size (by simp)))
      have HOa := Lib.hid (ownsRow_fr HO.out fa (fun q hq => ⟨(HO.out.lt q hq).2, by simp⟩))
      have HIa := Lib.hid (fun m hm => (HI.out m hm).fr fa)
      clear fa hb1 HO HI FR FW
      go_upto_region 13 with fail
      clear p0 p1 p2 p3 p4 p5 p6 p7 p8 p9 p10 p11 p12 p13 p14
      generalize wr.alloc (.cells (stA kd y rs (.slice Af nf cf) (.slice Ap np cp)) 37) = wa at *
      generalize wr.heap.size = gx at *
      have q0 := BX.out.cell 0
      have q1 := BX.out.cell 1
      have q2 := BX.out.cell 2
      have q3 := BX.out.cell 3
      have q4 := BX.out.cell 4
      have q5 := BX.out.cell 5
      have q6 := BX.out.cell 6
      have q7 := BX.out.cell 7
      have q8 := BX.out.cell 8
      have q9 := BX.out.cell 9
      have q10 := BX.out.cell 10
      have q11 := BX.out.cell 11
      have q12 := BX.out.cell 12
      have q13 := BX.out.cell 13
      have q14 := BX.out.cell 14
      simp at q0 q1 q2 q3 q4 q5 q6 q7 q8 q9 q10 q11 q12 q13 q14
      go_wp2_with fail
      refine HCL.out.mono ?_
      rintro e w6 ⟨tf, tp, rfl, hin2, hfr1, hfr2, f2⟩
      have HO2 := Lib.hid (ownsRow_fr HOa.out f2 (fun q hq => ⟨(HOa.out.lt q hq).2, by simp⟩))
      have F2 := Lib.hid (FRa.out.trans (f2.mono (B' := w5.heap.size) (L' := []) FRa.out.size (by simp)))
      have HI2 := Lib.hid (fun m hm => (HIa.out m hm).fr f2)
      have hown0 : ∀ v, Fresh wa.heap.size v → Off (Value.ownBlock (.slice A' k c')) v := by
        intro v hv
        cases hq : Value.ownBlock (.slice A' k c') with
        | none => exact off_none v
        | some g => exact fresh_off hv (HOa.out.lt g hq).2
      have HMn := Lib.hid (show SmO (Value.ownBlock (.slice A' k c')) w6 (cs, tf, tp) from ⟨hin2, hown0 _ hfr1, hown0 _ hfr2⟩)
      obtain ⟨⟨A7, c7, h7, _⟩, ⟨A8, c8, h8, _⟩⟩ := hin2
      simp only at h7 h8
      subst h7
      subst h8
      obtain ⟨mf, hmf⟩ : ∃ z, z = cs.nd.fr.length := ⟨_, rfl⟩
      obtain ⟨mp, hmp⟩ : ∃ z, z = cs.nd.pg.length := ⟨_, rfl⟩
      rw [← hmf, ← hmp]
      rw [← hmf, ← hmp] at HMn
      have hown := HO2.out
      have hsz := F2.out.size
      have hone := Lib.hid (@stOne cs.kind cs.nd cs.rs A7 A8 mf c7 mp c8)
      clear f2 HCL q0 q1 q2 q3 q4 q5 q6 q7 q8 q9 q10 q11 q12 q13 q14 hfr1 hfr2 hown0 hmf hmp
      go_wp2_with (at_builtin; refine wpList_app_lit w6 rfl (.tmp 44) (.tmp 47) stepTyK rfl w5.heap.size (.slice A' k c') k _ rfl hown 1 1 (stV cs (.slice A7 mf c7) (.slice A8 mp c8)) rfl rfl hone.out (by omega) (by omega) hsz ?_; intro A3 c3 w7 hown7 hg7 hat7)
      have fa2 := (Fr.refl w6.heap.size [] w6).alloc (Nat.le_refl _) (.cells (stV cs (.slice A7 mf c7) (.slice A8 mp c8)) 37)
      have HI7 := Lib.hid (show ∀ m ∈ S' ++ [(cs, Value.slice A7 mf c7, Value.slice A8 mp c8)], SmO (Value.ownBlock (.slice A3 (k + 1) c3)) w7 m from fun m hm => by
        rcases List.mem_append.1 hm with hm | hm
        · exact ((HI2.out m hm).fr fa2).grown hg7 hat7 (by simp)
        · rw [List.mem_singleton.1 hm]
          exact (HMn.out.fr fa2).grown hg7 hat7 (by simp))
      have F7 := Lib.hid (F2.out.trans (Fr.of_app hg7 hown hsz))
      have HO7 := Lib.hid (show w7.ownsRow w5.heap.size 37 15 (.slice A3 (k + 1) c3) (k + 1) (cellsS (S' ++ [(cs, Value.slice A7 mf c7, Value.slice A8 mp c8)])) by rw [cellsS_app]; simpa [cellsS, stL] using hown7)
      have HK7 := Lib.hid (show k + 1 = (S' ++ [(cs, Value.slice A7 mf c7, Value.slice A8 mp c8)]).length by rw [List.length_append, ← HK.out]; rfl)
      have HQ7 := Lib.hid (show fstS (S' ++ [(cs, Value.slice A7 mf c7, Value.slice A8 mp c8)]) = (P.take (k + 1)).map cleanS by rw [HTK.out, ← HQ.out]; unfold fstS; rw [List.map_append]; rfl)
      clear hg7 hat7 hown7 fa2 hown hone
      go_roundg (n2 - (k + 1))
      case measure => omega
      case rel => exact ⟨k + 1, A3, c3, _, by omega, rfl, rfl, by go_num, .inr ⟨_, rfl⟩, HK7, HQ7, HO7, HI7, F7⟩
    · obtain rfl : n2 = k := by omega
      have hPt : P.take n2 = P := List.take_of_length_le (by rw [HP.out, HNU.out]; simp [fstS])
      have hSS : SmallS S' := fun m hm => by
        have h1 : m.1 ∈ fstS S' := List.mem_map.2 ⟨m, hm, rfl⟩
        rw [HQ.out, hPt] at h1
        obtain ⟨s, hs, e⟩ := List.mem_map.1 h1
        rw [HP.out] at hs
        obtain ⟨s', hs', rfl⟩ := List.mem_map.1 hs
        have h2 := clean_len s'.1
        have h3 := HSS.out s' hs'
        rw [← e]
        omega
      have HAP2 := Lib.hid (by
        have := papply_any A A' c c' wr.heap.size n n2 M S' wr ((H.out.frw FW.out (Nat.le_refl _) (by simp)).more FW.out.size) (Nat.le_refl _) HSM.out ⟨HK.out, Reads.of_own HO.out, fun m hm => (HI.out m hm).inn⟩ hSS (by omega)
        rw [HQ.out, hPt, apply_cln, ← HL.out, ← HRA.out] at this
        exact this : Calls Try.prog 7 #[.slice A n c, .slice A' n2 c'] wr (ApOut ra wr))
      have F4r := Lib.hid (F45.out.trans (FR.out.mono (B' := w4.heap.size) (L' := []) F45.out.size (by simp)))
      have F3r := Lib.hid (F35.out.trans (FR.out.mono (B' := w3.heap.size) (L' := []) F35.out.size (by simp)))
      clear hPt hSS HK HQ HO HI FR F45 F35 F34
      go_wp2_with fail
      refine HAP2.out.mono ?_
      intro e w6 h6
      obtain ⟨A6, c6, n6, rfl, f6, h6a, h6b⟩ := apply_uni HRA.out h6
      have F6 := Lib.hid (FW.out.trans (f6.mono (B' := w.heap.size) (L' := []) FW.out.size (by simp)))
      have F46 := Lib.hid (F4r.out.trans (f6.mono (B' := w4.heap.size) (L' := []) F4r.out.size (by simp)))
      have F36 := Lib.hid (F3r.out.trans (f6.mono (B' := w3.heap.size) (L' := []) F3r.out.size (by simp)))
      obtain ⟨a1, hq1⟩ : ∃ a, a = ra.1 := ⟨_, rfl⟩
      rw [← hq1]
      have HQ1 := Lib.hid hq1
      clear h6 f6 HAP2 FW F4r F3r hq1
      by_cases e1 : a1 = 0
      case neg =>
        have e1r : ra.1 ≠ 0 := by rw [← HQ1.out]; exact e1
        obtain ⟨rfl, rfl, rfl⟩ := H4A.out e1r
        obtain ⟨rfl, rfl, rfl⟩ := h6a e1r
        have hcb := kd_ne e1
        have hcn : (a1 != 0) = true := by simpa using e1
        have HS0 := Lib.hid (by
          have := gsame_any none none 0 0 w6.heap.size 0 0 [] [] w6 ⟨rfl, Reads.none_, by simp⟩ ⟨rfl, Reads.none_, by simp⟩ (Nat.le_refl _) ⟨by simp, by simp⟩ ⟨by simp, by simp⟩ (by omega) (by omega)
          rw [same_self] at this
          exact this : Calls Try.prog 8 #[.slice none 0 0, .slice none 0 0] w6 fun e w' => e = .returned (.bool true) ∧ Fr w6.heap.size [] w6 w')
        clear h6a h6b e1r e1
        go_wp2_with fail
        refine HS0.out.mono ?_
        rintro e w7 ⟨rfl, f7⟩
        have F7 := Lib.hid (F6.out.trans (f7.mono (B' := w.heap.size) (L' := []) F6.out.size (by simp)))
        clear f7 HS0 F6
        go_wp2_with fail
        go_ret
        exact ⟨by simp, F7.out.below⟩
      have e1r : ra.1 = 0 := by rw [← HQ1.out]; exact e1
      obtain ⟨hn40, M4, hn4, hf4, hr4⟩ := H4B.out e1r
      obtain ⟨_, M6, hn6, hf6, hr6⟩ := h6b e1r
      obtain ⟨R, hR⟩ : ∃ R, R = ra.2.2 := ⟨_, rfl⟩
      rw [← hR] at hf4 hr4 hf6 hr6
      have e1a := e1r
      rw [HRA.out] at e1a
      obtain ⟨hrL, _, hsrc⟩ := apply_src e1a
      have hnrm := apply_norml e1a
      rw [← HRA.out, ← hR] at hsrc hnrm
      have hl4 : n4 ≤ 8 := by
        have := hr4.len
        rw [← hf4] at this
        simp only [fstN, List.length_map] at this
        rw [hn4.num]; omega
      have hl6 : n6 ≤ 8 := by
        have := hr6.len
        rw [← hf6] at this
        simp only [fstN, List.length_map] at this
        rw [hn6.num]; omega
      have HSG := Lib.hid (by
        have := gsame_any A4 A6 c4 c6 w6.heap.size n4 n6 M4 M6 w6 ((hn4.nds F46.out (by simp)).more F46.out.size) (hn6.nds (L := []) (Fr.refl _ _ _) (by simp)) (Nat.le_refl _) (small_right' hr4 hf4) (small_right' hr6 hf6) (by omega) (by omega)
        rw [hf4, hf6, same_self] at this
        exact this : Calls Try.prog 8 #[.slice A4 n4 c4, .slice A6 n6 c6] w6 fun e w' => e = .returned (.bool true) ∧ Fr w6.heap.size [] w6 w')
      have HN4 := Lib.hid hn4
      have HF4 := Lib.hid hf4
      have HR4 := Lib.hid hr4
      have HSR := Lib.hid hsrc
      have HNR := Lib.hid hnrm
      have HRL := Lib.hid hrL
      subst e1
      clear h6a h6b hn4 hf4 hr4 hn6 hf6 hr6 hR e1a hsrc hnrm hrL H4A H4B e1r hl6 HQ1
      go_wp2_with fail
      refine HSG.out.mono ?_
      rintro e w7 ⟨rfl, f7⟩
      have F7 := Lib.hid (F6.out.trans (f7.mono (B' := w.heap.size) (L' := []) F6.out.size (by simp)))
      have F47 := Lib.hid (F46.out.trans (f7.mono (B' := w4.heap.size) (L' := []) F46.out.size (by simp)))
      have F37 := Lib.hid (F36.out.trans (f7.mono (B' := w3.heap.size) (L' := []) F36.out.size (by simp)))
      have HFD := Lib.hid (find_any 0 A c w.heap.size n M w7 (H.out.frw F7.out (Nat.le_refl _) (by simp)) F7.out.size HSM.out)
      have HFG := Lib.hid (fun (wx : World) (hx : Fr w4.heap.size [] w4 wx) => find_any 0 A4 c4 w4.heap.size n4 M4 wx (HN4.out.nds hx (by simp)) hx.size (small_right' HR4.out HF4.out))
      have HCG := Lib.hid (fun (wx : World) (hx : Fr w4.heap.size [] w4 wx) => (by
        have := gcheck_any A4 c4 w4.heap.size n4 M4 wx (HN4.out.nds hx (by simp)) hx.size (small_right' HR4.out HF4.out)
        rw [HF4.out, checkN_zero.2 HR4.out] at this
        exact this : Calls Try.prog 11 #[.slice A4 n4 c4] wx fun e w' => e = .returned (.int .i64 0) ∧ Fr wx.heap.size [] wx w'))
      clear f7 HSG F6 F46 F36
      go_wp2_with fail
      refine HFD.out.mono ?_
      rintro e w8 ⟨⟨hno, _⟩ | ⟨x, sf, sp, hx, rfl, hin⟩, f8⟩
      · obtain ⟨z, hz, _⟩ := src_there HRL.out
        have hno2 : findN L 0 = none := by rw [HL.out]; exact hno
        rw [hno2] at hz; cases hz
      have hxL : findN L 0 = some x := by rw [HL.out]; exact hx
      have HX := Lib.hid hxL
      have F8 := Lib.hid (F7.out.trans (f8.mono (B' := w.heap.size) (L' := []) F7.out.size (by simp)))
      have F48 := Lib.hid (F47.out.trans (f8.mono (B' := w4.heap.size) (L' := []) F47.out.size (by simp)))
      have F38 := Lib.hid (F37.out.trans (f8.mono (B' := w3.heap.size) (L' := []) F37.out.size (by simp)))
      have hxl := right_small HRL.out x (findN_mem hxL)
      have HIN := Lib.hid hin
      obtain ⟨⟨Af, cf, hf1, _⟩, ⟨Ap, cp, hp1, _⟩⟩ := hin
      simp only at hf1 hp1
      subst hf1
      subst hp1
      obtain ⟨nf, hnf⟩ : ∃ z, z = x.fr.length := ⟨_, rfl⟩
      obtain ⟨np, hnp⟩ : ∃ z, z = x.pg.length := ⟨_, rfl⟩
      rw [← hnf, ← hnp] at HIN ⊢
      have HNF := Lib.hid hnf
      have HNP := Lib.hid hnp
      have BA := Lib.hid (Blk.new w8 35 (ndA x (.slice Af nf cf) (.slice Ap np cp)))
      have fa := (Fr.refl w8.heap.size [] w8).alloc (Nat.le_refl _) (.cells (ndA x (.slice Af nf cf) (.slice Ap np cp)) 35)
      have F9 := Lib.hid (F8.out.trans (fa.mono (B' := w.heap.size) (L' := []) F8.out.size (by simp)))
      have F49 := Lib.hid (F48.out.trans (fa.mono (B' := w4.heap.size) (L' := []) F48.out.size (by simp)))
      have F39 := Lib.hid (F38.out.trans (fa.mono (B' := w3.heap.size) (L' := []) F38.out.size (by simp)))
      have HIN9 := Lib.hid ((HIN.out.frw fa (Nat.le_refl _) (by simp)).more fa.size)
      clear f8 hx hxL fa HFD F7 F47 F37 F8 F48 F38 HIN hnf hnp
      go_upto_region 21 with fail
      generalize w8.alloc (.cells (ndA x (.slice Af nf cf) (.slice Ap np cp)) 35) = w9 at *
      generalize w8.heap.size = ga at *
      have HG9 := Lib.hid (HFG.out w9 F49.out)
      clear HFG
      go_wp2_with fail
      refine HG9.out.mono ?_
      rintro e w10 ⟨⟨hno, _⟩ | ⟨y, tf, tp, hy, rfl, hin⟩, f10⟩
      · have hno2 : findN R 0 = none := by rw [← HF4.out]; exact hno
        rw [HSR.out, HX.out] at hno2; cases hno2
      have hyx : y = x := by
        have hy2 : findN R 0 = some y := by rw [← HF4.out]; exact hy
        rw [HSR.out, HX.out] at hy2
        injection hy2 with e
        exact e.symm
      subst hyx
      have F10 := Lib.hid (F9.out.trans (f10.mono (B' := w.heap.size) (L' := []) F9.out.size (by simp)))
      have F410 := Lib.hid (F49.out.trans (f10.mono (B' := w4.heap.size) (L' := []) F49.out.size (by simp)))
      have F310 := Lib.hid (F39.out.trans (f10.mono (B' := w3.heap.size) (L' := []) F39.out.size (by simp)))
      have BA10 := Lib.hid (BA.out.fr f10 BA.out.lt (by simp))
      have HIN10 := Lib.hid ((HIN9.out.frw f10 (Nat.le_refl _) (by simp)).more f10.size)
      have HJN := Lib.hid hin
      obtain ⟨⟨Bf, df, hf1, _⟩, ⟨Bp, dp, hp1, _⟩⟩ := hin
      simp only at hf1 hp1
      subst hf1
      subst hp1
      rw [← HNF.out, ← HNP.out] at HJN ⊢
      have BB := Lib.hid (Blk.new w10 35 (ndA y (.slice Bf nf df) (.slice Bp np dp)))
      have fa := (Fr.refl w10.heap.size [] w10).alloc (Nat.le_refl _) (.cells (ndA y (.slice Bf nf df) (.slice Bp np dp)) 35)
      have F11 := Lib.hid (F10.out.trans (fa.mono (B' := w.heap.size) (L' := []) F10.out.size (by simp)))
      have F411 := Lib.hid (F410.out.trans (fa.mono (B' := w4.heap.size) (L' := []) F410.out.size (by simp)))
      have F311 := Lib.hid (F310.out.trans (fa.mono (B' := w3.heap.size) (L' := []) F310.out.size (by simp)))
      have HIN11 := Lib.hid ((HIN10.out.frw fa (Nat.le_refl _) (by simp)).more fa.size)
      have HJN11 := Lib.hid ((HJN.out.frw fa (Nat.le_refl _) (by simp)).more fa.size)
      have BA11 := Lib.hid (BA10.out.fr fa BA10.out.lt (by simp))
      clear f10 hy fa HG9 F9 F49 F39 F10 F410 F310 HIN9 HIN10 HJN BA BA10
      go_upto_region 22 with fail
      generalize w10.alloc (.cells (ndA y (.slice Bf nf df) (.slice Bp np dp)) 35) = w11 at *
      generalize w10.heap.size = gb at *
      have HC11 := Lib.hid (HCG.out w11 F411.out)
      clear HCG
      go_wp2_with fail
      refine HC11.out.mono ?_
      rintro e w12 ⟨rfl, f12⟩
      have F12 := Lib.hid (F11.out.trans (f12.mono (B' := w.heap.size) (L' := []) F11.out.size (by simp)))
      have F412 := Lib.hid (F411.out.trans (f12.mono (B' := w4.heap.size) (L' := []) F411.out.size (by simp)))
      have F312 := Lib.hid (F311.out.trans (f12.mono (B' := w3.heap.size) (L' := []) F311.out.size (by simp)))
      have BA12 := Lib.hid (BA11.out.fr f12 BA11.out.lt (by simp))
      have BB12 := Lib.hid (BB.out.fr f12 BB.out.lt (by simp))
      have HND := Lib.hid (by
        have := rnode_any y y (.slice Af nf cf) (.slice Ap np cp) (.slice Bf nf df) (.slice Bp np dp) w12.heap.size w12 ((HIN11.out.frw f12 (Nat.le_refl _) (by simp)).more f12.size) ((HJN11.out.frw f12 (Nat.le_refl _) (by simp)).more f12.size) (Nat.le_refl _) (by omega) (by omega)
        rw [sameNd_self] at this
        exact this : Calls Try.prog 12 #[.agg (ndA y (.slice Af nf cf) (.slice Ap np cp)), .agg (ndA y (.slice Bf nf df) (.slice Bp np dp))] w12 fun e w' => e = .returned (.bool true) ∧ Fr w12.heap.size [] w12 w')
      have q0 := BA12.out.cell 0
      have q1 := BA12.out.cell 1
      have q2 := BA12.out.cell 2
      have q3 := BA12.out.cell 3
      have q4 := BA12.out.cell 4
      have q5 := BA12.out.cell 5
      have q6 := BA12.out.cell 6
      have q7 := BA12.out.cell 7
      have q8 := BA12.out.cell 8
      have q9 := BA12.out.cell 9
      have q10 := BA12.out.cell 10
      have q11 := BA12.out.cell 11
      have q12 := BA12.out.cell 12
      have r0 := BB12.out.cell 0
      have r1 := BB12.out.cell 1
      have r2 := BB12.out.cell 2
      have r3 := BB12.out.cell 3
      have r4 := BB12.out.cell 4
      have r5 := BB12.out.cell 5
      have r6 := BB12.out.cell 6
      have r7 := BB12.out.cell 7
      have r8 := BB12.out.cell 8
      have r9 := BB12.out.cell 9
      have r10 := BB12.out.cell 10
      have r11 := BB12.out.cell 11
      have r12 := BB12.out.cell 12
      simp at q0 q1 q2 q3 q4 q5 q6 q7 q8 q9 q10 q11 q12 r0 r1 r2 r3 r4 r5 r6 r7 r8 r9 r10 r11 r12
      clear f12 HC11 F11 F411 F311 BA11 BB HIN11 HJN11 BA12 BB12
      go_wp2_with fail
      refine HND.out.mono ?_
      rintro e w13 ⟨rfl, f13⟩
      have F413 := Lib.hid (F412.out.trans (f13.mono (B' := w4.heap.size) (L' := []) F412.out.size (by simp)))
      have F313 := Lib.hid (F312.out.trans (f13.mono (B' := w3.heap.size) (L' := []) F312.out.size (by simp)))
      have HRW := Lib.hid (ownsRow_fr HN4.out.own F413.out (fun q hq => ⟨(HN4.out.own.lt q hq).2, by simp⟩))
      have HPR := Lib.hid ((pri_of HN4.out).fr F413.out)
      have hnM : n4 = M4.length := HN4.out.num
      have HSH := Lib.hid (show ∀ m ∈ M4, ∃ Ap cp, m.2.2 = Value.slice Ap m.1.pg.length cp from fun m hm => by
        obtain ⟨⟨_, ⟨A', c', h3, _⟩⟩, _⟩ := HN4.out.inn m hm
        exact ⟨A', c', h3⟩)
      have HNM4 := Lib.hid hnM
      clear f13 HND F12 F412 F312 q0 q1 q2 q3 q4 q5 q6 q7 q8 q9 q10 q11 q12 r0 r1 r2 r3 r4 r5 r6 r7 r8 r9 r10 r11 r12 HX hnM hxl HN4
      go_wp2_with fail
      go_loopg [19, 93] n4 (fun g s19 s93 wr => ∃ k : Nat, k ≤ n4 ∧ g = n4 - k ∧ s93 = .int .i64 k ∧ (s19 = undef ∨ ∃ a : Int, s19 = .int .i64 a) ∧ RowKit.Hid (wr.ownsRow w3.heap.size 35 13 (.slice A4 n4 c4) n4 (cellsN M4)) ∧ RowKit.Hid (PrI w3.heap.size (Value.ownBlock (.slice A4 n4 c4)) M4 wr) ∧ RowKit.Hid (Fr w3.heap.size [] w3 wr))
      case atStart => exact ⟨0, Nat.zero_le _, rfl, rfl, .inl rfl, HRW, HPR, F313⟩
      case round =>
        clear HRW HPR F313 F413
        obtain ⟨k, hk, rfl, rfl, h19, HO, HPI, FJ⟩ := hrel
        by_cases hkn : k < n4
        · have hki : (k : Int) < (n4 : Int) := by omega
          have hk0 : (0 : Int) ≤ (k : Int) := by omega
          have RD := Lib.hid (Reads.of_own HO.out)
          obtain ⟨m, hx⟩ : ∃ m, M4[k]? = some m := ⟨_, List.getElem?_eq_getElem (by rw [← HNM4.out]; exact hkn)⟩
          have HX := Lib.hid hx
          have hmm := Lib.hid (List.mem_of_getElem? hx)
          obtain ⟨Az, cz, hsz⟩ := HSH.out m (List.mem_of_getElem? hx)
          obtain ⟨b, off, hA, hb, hc1⟩ := row_get RD.out HNM4.out hx
          subst hA
          have HBL := Lib.hid hb
          obtain ⟨x, sf, sp⟩ := m
          simp only at hsz
          subst hsz
          obtain ⟨nz, hnz⟩ : ∃ z, z = x.pg.length := ⟨_, rfl⟩
          rw [← hnz] at hc1 hmm HX
          have p0 := hc1 0 (.int .i64 x.id) rfl
          have p3 := hc1 3 (.slice Az nz cz) rfl
          simp only [Nat.add_zero] at p0
          have P3 := Lib.hid p3
          clear hx hc1 p3 hnz
          go_upto_region 27 with fail
          go_cut [111] (fun s111 wx => s111 = .bool false ∧ RowKit.Hid (Fr wr.heap.size [] wr wx))
          case first =>
            rcases k with _ | q
            · have hd : decide ((0 : Int) < 0) = false := rfl
              go_quiet (fail)
              go_wp2_with fail
              go_meet
              exact ⟨rfl, Lib.hid ((Fr.refl _ _ _).drewN _)⟩
            · obtain ⟨m', hx'⟩ : ∃ m', M4[q]? = some m' := ⟨_, List.getElem?_eq_getElem (by rw [← HNM4.out]; omega)⟩
              obtain ⟨b', off', hA', hb', hc1'⟩ := row_get RD.out HNM4.out hx'
              injection hA' with hA'
              injection hA' with e1 e2
              subst e1
              subst e2
              obtain ⟨x', sf', sp'⟩ := m'
              have p0' := hc1' 0 (.int .i64 x'.id) rfl
              simp only [Nat.add_zero] at p0'
              have hlt := rises_at HR4.out HNR.out (i := q) (x := x') (y := x) (by rw [← HF4.out]; simp [fstN, hx']) (by rw [← HF4.out]; have := HX.out; simp [fstN, this])
              have hq0 : (0 : Int) ≤ (q : Int) := by omega
              have hq1 : (0 : Int) ≤ (q : Int) + 1 := by omega
              have hq2 : (q : Int) < (n4 : Int) := by omega
              have hq3 : (q : Int) + 1 < (n4 : Int) := by omega
              have hw1 : IntKind.i64.wrap ((q : Int) + 1 - 1) = (q : Int) := by rw [IntKind.wrap_i64]; omega
              have hw3 : IntKind.i64.wrap (q : Int) = (q : Int) := by rw [IntKind.wrap_i64]; omega
              have hgd : decide ((0 : Int) < (q : Int) + 1) = true := decide_eq_true (by omega)
              have hle : decide (x.id ≤ x'.id) = false := decide_eq_false (by omega)
              clear hc1' hb' hx'
              go_quiet (fail)
              go_wp2_with fail
              go_meet
              exact ⟨rfl, Lib.hid ((Fr.refl _ _ _).drewN _)⟩
          case rest =>
            obtain ⟨rfl, FC⟩ := hcut
            have p3 := (FC.out.cell (p := ⟨b, off + k * 13 + 3, none⟩) HBL.out (by simp)).trans P3.out
            have HOC := Lib.hid (ownsRow_fr HO.out FC.out (fun q hq => ⟨(HO.out.lt q hq).2, by simp⟩))
            have HPC := Lib.hid (HPI.out.fr FC.out)
            have FJC := Lib.hid (FJ.out.trans (FC.out.mono (B' := w3.heap.size) (L' := []) FJ.out.size (by simp)))
            by_cases hz : nz = 0
            · subst hz
              go_wp2_with fail
              go_roundg (n4 - (k + 1))
              case measure => omega
              case rel => exact ⟨k + 1, by omega, rfl, by go_num, .inr ⟨_, rfl⟩, HOC, HPC, FJC⟩
            · obtain ⟨b2, o2, rfl, ⟨v, pv⟩, pz, hb2, hq2⟩ := HPC.out _ hmm.out _ _ _ rfl (by omega)
              have hz0 : (0 : Int) < (nz : Int) := by omega
              have HQ2 := Lib.hid hq2
              have HB2 := Lib.hid hb2
              clear hq2 hb2
              go_wp2_with fail
              go_roundg (n4 - (k + 1))
              case measure => omega
              case rel => exact ⟨k + 1, by omega, rfl, by go_num, .inr ⟨_, rfl⟩, Lib.hid (ownsRow_setCell_other HOC.out (fun e => HQ2.out e.symm) _), Lib.hid (HPC.out.set _ _), Lib.hid (FJC.out.setCell (.inl HB2.out) _)⟩
        · obtain rfl : n4 = k := by omega
          have FW := Lib.hid (F3.out.trans (FJ.out.mono (B' := w.heap.size) (L' := []) F3.out.size (by simp)))
          have HSE := Lib.hid (HSA.out wr FW.out FJ.out)
          go_wp2_with fail
          refine HSE.out.mono ?_
          rintro e w14 ⟨rfl, f14⟩
          have F14 := Lib.hid (FW.out.trans (f14.mono (B' := w.heap.size) (L' := []) FW.out.size (by simp)))
          clear f14 HSE
          go_wp2_with fail
          go_ret
          exact ⟨rfl, F14.out.below⟩
end Go.Proofs.Ytfakgidimekikaa
namespace Go.Proofs.Ytfakgidimekikaa
open Go.ChangeShapes Go.WideShapes Go.ChangeAt Go.RowKit Go.Fb
set_option linter.unusedVariables false

set_option maxRecDepth 100000 in
theorem lifted_PlanKeeps (os : Os) (started : os.Started) (H : Type) (enc : TypeId × Value → H) :
    ReturnsInHanded {} Try.checked os 3 .any (Rows.planKeepsSpec.pre6 enc Try.prog Try.f3 Rows.planKeepsRow.domain false) (Rows.planKeepsSpec.post enc Try.prog Try.f3 false true false false) := by
  refine returnsInHanded_of_change (C := Try.checked) (show ownKnob Try.prog.godebug = none by kernel_rfl) started (by kernel_rfl) Try.func3
    (ChangeSpec.witness6 (enc := enc) (C := Try.checked) false ⟨#[], #[.slice none 0 0, .slice none 0 0], []⟩ 8 (by kernel_rfl) (by kernel_rfl) (by kernel_rfl) (by kernel_rfl)) ?_
  intro W base args ds gs before hval0 hW hcnd _
  have hval : ∀ (j : Nat) t v, Try.f3.params[j]? = some t → args[j]? = some v → Value.okWide Try.prog W .any base t v := hval0
  have hW' := hW
  obtain ⟨p, q, hA0, hV, rfl, hfz, hnd⟩ := hW
  have hA : DataW.TrodAll enc Try.prog W 0 (fun _ => true) true Try.f3.params.toList args.toList ds p := hA0
  rw [Try.params3] at hA hval
  obtain ⟨v0, vs0, d0, ds0, p0, q0, hargs, rfl, rfl, h0, r0'⟩ := trodAll_cons hA
  obtain ⟨v1, vs1, d1, ds1, p1, q1, rfl, rfl, rfl, h1, r1'⟩ := trodAll_cons r0'
  obtain ⟨rfl, rfl, rfl⟩ := trodAll_nil r1'
  obtain rfl : args = #[v0, v1] := by cases args; simp_all
  obtain ⟨rfl, rfl⟩ := trodVars_none hV
  have k0 := h0
  have lt0 : ∀ x ∈ p0, x.block < W.heap.size := by obtain ⟨m, hm⟩ := k0; exact DataW.trod_lt m _ _ _ hm
  have k1 := h1
  have lt1 : ∀ x ∈ p1, x.block < W.heap.size := by obtain ⟨m, hm⟩ := k1; exact DataW.trod_lt m _ _ _ hm
  obtain ⟨A0, n0, c0, M0, rfl, l0, m0, r0, wf0⟩ := arg_nodes (hval 0 22 v0 rfl rfl) h0
  obtain ⟨A1, n1, c1, M1, rfl, l1, m1, r1, wf1⟩ := arg_steps (hval 1 23 v1 rfl rfl) h1
  clear hA0 hval0
  refine (walk_PlanKeeps A0 n0 c0 M0 l0 m0 A1 n1 c1 M1 l1 m1 W r0 wf0.cap r1 wf1.cap).mono fun e W' ⟨he, bel⟩ => ?_
  subst he
  exact ⟨_, rfl, _, _, _, [], _, [], hW', trodAll_mk1 (shut_bool Try.underlying4 _), (trodAll_cons_mk (Below.trod (show laidOutB Try.prog = true by kernel_rfl) (by kernel_rfl) (of_decide_eq_true (by kernel_rfl)) k0 bel lt0) (trodAll_cons_mk (Below.trod (show laidOutB Try.prog = true by kernel_rfl) (by kernel_rfl) (of_decide_eq_true (by kernel_rfl)) k1 bel lt1) trodAll_mk0)), rfl, bel.frame _, fun h => by cases h⟩

theorem PlanKeeps_holds : Rows.PlanKeepsSaid :=
  OpenClaim.holds_of_wide 3 Try.f3 rfl rfl rfl rfl rfl rfl rfl ⟨rfl, rfl, rfl, rfl, rfl⟩ rfl rfl rfl rfl rfl (by kernel_rfl) Try.func3 (by kernel_rfl)
    (of_decide_eq_true (by kernel_rfl)) (by unfold Func.isWrapper; first | (rw [if_pos (by decide +kernel)]; kernel_rfl) | (rw [if_neg (by decide +kernel)]; exact ⟨rfl, rfl⟩))
    (fun os started H enc _ => lifted_PlanKeeps os started H enc)
#print axioms PlanKeeps_holds
end Go.Proofs.Ytfakgidimekikaa
