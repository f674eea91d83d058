/- forebaylaw11.RemapLoads: for every input the call returns true, and each argument reads behind it as it read before. The walk lies in the text that this one imports; here it is lifted to the given row. -/
import Derived.Test.YtfakgidimekikaaGreatMRm
import Derived.Test.YtfakgidimekikaaGreatMI
import Derived.Test.YtfakgidimekikaaGreatMEnt
import Derived.Test.YtfakgidimekikaaGreatMA
import Derived.Test.YtfakgidimekikaaGreatMRmL
import Derived.Test.YtfakgidimekikaaGreatMArgs
import Derived.Test.YtfakgidimekikaaGreatMStsA
import Derived.Test.YtfakgidimekikaaGreatMEntA
import Derived.Deep.DeepCutAuto
namespace Go.Proofs.YtfakgidimekikaaGreat
open Go.RowKit Go.Fb
set_option linter.unusedVariables false
set_option maxRecDepth 100000 in
set_option maxHeartbeats 16000000 in
theorem walk_RemapLoads (A0 : Option Addr) (m k0 : Nat) (l : List (Nat → Int)) (hm : m = l.length) (hk0 : m ≤ k0) (hm0 : k0 ≤ maxLen) (A : Option Addr) (n c : Nat) (M : List Ndm) (hc : n ≤ c) (hmc : c ≤ maxLen) (A2 : Option Addr) (n2 c2 : Nat) (S : List Stm) (hc2 : n2 ≤ c2) (hm2 : c2 ≤ maxLen) (w : World) (hr : Reads w w.heap.size 6 A0 m (cellsE l)) (h : Nds w w.heap.size A n M) (hcap : CapN M) (hS : Sts w w.heap.size A2 n2 S) (hcs : ∀ m ∈ S, ∀ A n c, m.2.1 = .slice A n c → n ≤ c) :
    Calls Tryz.prog 7 #[.slice A0 m k0, .slice A n c, .slice A2 n2 c2] w fun e w' => e = .returned (.bool true) ∧ Below w.heap.size w w' := by
  obtain ⟨L, hL⟩ : ∃ L, L = fstN M := ⟨_, rfl⟩
  obtain ⟨P, hP⟩ : ∃ P, P = fstS S := ⟨_, rfl⟩
  obtain ⟨gv, hgv⟩ : ∃ v, v = greatP L P := ⟨_, rfl⟩
  have HG := Lib.hid (fun (wx : World) (hx : Fr w.heap.size [] w wx) => (by rw [hgv, hL, hP]; exact great10_any A A2 c c2 w.heap.size n n2 M S wx (h.frw hx (Nat.le_refl _) (by simp)) hx.size (by omega) (hS.frw hx (Nat.le_refl _) (by simp)) (by omega) : Calls Tryz.prog 24 #[.slice A n c, .slice A2 n2 c2] wx fun e w' => e = .returned (.bool gv) ∧ Fr wx.heap.size [] wx w'))
  have HA := Lib.hid (awake11_any w)
  have HL := Lib.hid hL
  have HP := Lib.hid hP
  have HGV := Lib.hid hgv
  have H := Lib.hid h
  have HST := Lib.hid hS
  have HNU := Lib.hid hS.num
  have HR := Lib.hid hr
  have HM := Lib.hid hm
  have HCP := Lib.hid hcap
  have HCS := Lib.hid hcs
  clear hL hP hgv h hS hcap hcs hr hm
  go_enter Tryz.func7, Tryz.ntmps7
  go_wp2_with fail
  refine HA.out.mono ?_
  rintro e w1 ⟨rfl, f1⟩
  have F1 := Lib.hid f1
  have HG1 := Lib.hid (HG.out w1 f1)
  clear f1 HA HG
  go_wp2_with fail
  refine HG1.out.mono ?_
  rintro e w2 ⟨rfl, f2⟩
  have F2 := Lib.hid (F1.out.trans (f2.mono (B' := w.heap.size) (L' := []) F1.out.size (by simp)))
  clear f2 HG1 F1
  cases gv with
  | true =>
    go_wp2_with fail
    go_ret
    exact ⟨rfl, F2.out.below⟩
  | false => ?_
  obtain ⟨hl20, hsm, hk, hs20, hss⟩ := greatP_no (by rw [← HL.out, ← HP.out]; exact HGV.out.symm)
  have HSM := Lib.hid hsm
  have HSS := Lib.hid hss
  have HL20 := Lib.hid hl20
  have hn2 : n2 ≤ 20 := by rw [HNU.out]; exact hs20
  clear hl20 hsm hk hs20 hss HGV
  by_cases hm100 : 100 < m
  · have hmi : (100 : Int) < (m : Int) := by omega
    go_wp2_with fail
    go_ret
    exact ⟨rfl, F2.out.below⟩
  have hmi : ¬ (100 : Int) < (m : Int) := by omega
  have HID := Lib.hid (idle_any A A2 c c2 w.heap.size n n2 M S w2 (H.out.frw F2.out (Nat.le_refl _) (by simp)) F2.out.size HSM.out (HST.out.frw F2.out (Nat.le_refl _) (by simp)) HSS.out (by omega))
  obtain ⟨iv, hiv⟩ : ∃ b, b = idleN (fstN M) (fstS S) := ⟨_, rfl⟩
  rw [← hiv] at HID
  have HIV := Lib.hid hiv
  clear hiv
  go_wp2_with fail
  refine HID.out.mono ?_
  rintro e w3 ⟨rfl, f3⟩
  have F3 := Lib.hid (F2.out.trans (f3.mono (B' := w.heap.size) (L' := []) F2.out.size (by simp)))
  clear f3 HID F2
  cases iv with
  | false =>
    go_wp2_with fail
    go_ret
    exact ⟨by simp, F3.out.below⟩
  | true => ?_
  have F2 := F3
  clear F3
  clear w2
  obtain ⟨w2, hw2⟩ : ∃ x, x = w3 := ⟨_, rfl⟩
  subst hw2
  have HN2 := Lib.hid (cnew_any A0 m k0 w.heap.size l w2 HM.out (by omega) (HR.out.fr F2.out (Nat.le_refl _) (by simp)) F2.out.size)
  go_wp2_with fail
  refine HN2.out.mono ?_
  rintro e w4 (⟨ha, rfl, f4⟩ | ⟨ha, rfl, hc4, f4⟩)
  · have F4 := Lib.hid (F2.out.trans (f4.mono (B' := w.heap.size) (L' := []) F2.out.size (by simp)))
    clear f4 ha HN2
    go_wp2_with fail
    go_ret
    exact ⟨by simp, F4.out.below⟩
  have F4 := Lib.hid (F2.out.trans (f4.mono (B' := w.heap.size) (L' := []) F2.out.size (by simp)))
  obtain ⟨gm, hgm⟩ : ∃ g, g = w2.heap.size := ⟨_, rfl⟩
  have hwg : w.heap.size ≤ gm := by rw [hgm]; exact F2.out.size
  rw [← hgm] at hc4
  obtain ⟨gt, hgt⟩ : ∃ g, g = gm + 1 := ⟨_, rfl⟩
  rw [← hgt] at hc4
  have HGM := Lib.hid hgm
  have HGT := Lib.hid hgt
  rw [← hgm, ← hgt]
  obtain ⟨T, hT⟩ : ∃ T, T = tabL l := ⟨_, rfl⟩
  rw [← hT] at hc4
  have HTK := Lib.hid (show TOk T by rw [hT]; exact tabL_ok _ _ TOk.zero ha)
  have HLN := Lib.hid (show (allT T).length ≤ 100 by rw [hT]; exact Nat.le_trans (allT_len l) (by rw [← HM.out]; omega))
  have HC4 := Lib.hid hc4
  obtain ⟨ra, hra⟩ : ∃ r, r = applyN L P := ⟨_, rfl⟩
  have HRA := Lib.hid hra
  clear f4 ha HN2 hgm hgt hc4 hT hmi hra F2
  obtain ⟨e1, h4⟩ := idle_all HIV.out.symm
  rw [← HL.out, ← HP.out] at e1
  rw [← HP.out] at h4
  have HKE := Lib.hid (show kepL T P = T from kepL_route h4)
  obtain ⟨hrL, hrR, _⟩ := apply_src e1
  obtain ⟨R, hR⟩ : ∃ R, R = (applyN L P).2.2 := ⟨_, rfl⟩
  have hids := apply_ids h4 e1
  rw [← hR] at hids hrR
  have HGL := Lib.hid hrL
  have HGR := Lib.hid hrR
  have HIS := Lib.hid hids
  have HRR := Lib.hid (show ra.2.2 = R by rw [HRA.out, hR])
  have E1 := Lib.hid (show ra.1 = 0 by rw [HRA.out]; exact e1)
  obtain ⟨q, hq⟩ : ∃ q, q = allT T := ⟨_, rfl⟩
  have HQ := Lib.hid hq
  have HLD := Lib.hid (by
    have := loads_any gt gm T HTK.out A c w.heap.size n M w4 HC4.out (H.out.frw F4.out (Nat.le_refl _) (by simp)) F4.out.size HSM.out (by rw [← HL.out]; exact hrL) HLN.out
    rw [← HL.out, ← hq] at this
    exact this : Calls Tryz.prog 36 #[.slice A n c, .pointer (some ⟨gt, 0, none⟩)] w4 (LoadsOut L q w4))
  clear e1 h4 hrL hrR hids hR hq HIV
  go_wp2_with fail
  refine HLD.out.mono ?_
  rintro e w5 ⟨A5, c5, n5, X5, rfl, hx5, hf5, f5⟩
  have F5 := Lib.hid (F4.out.trans (f5.mono (B' := w.heap.size) (L' := []) F4.out.size (by simp)))
  have HC5 := Lib.hid (HC4.out.keep f5)
  have HX5 := Lib.hid hx5
  have HF5 := Lib.hid hf5
  have hgl : gm < w4.heap.size := HC4.out.mp.lt
  have HAP := Lib.hid (rmapply_any gt gm T HTK.out A A2 c c2 w.heap.size n n2 M S w5 HC5.out (H.out.frw F5.out (Nat.le_refl _) (by simp)) F5.out.size HSM.out (HST.out.frw F5.out (Nat.le_refl _) (by simp)) HSS.out (by omega) hwg)
  rw [← HL.out, ← HP.out, ← HRA.out] at HAP
  clear f5 hx5 hf5 HLD F4
  go_wp2_with fail
  refine HAP.out.mono ?_
  rintro e w7 (⟨e1, _⟩ | ⟨_, A7, c7, n7, M7, rfl, hn7, hf7, hr7, hc7, f7⟩)
  · exact absurd E1.out e1
  rw [HRR.out] at hf7 hr7
  rw [HKE.out] at hc7
  have F7 := Lib.hid (F5.out.trans (f7.mono (B' := w.heap.size) (L' := []) F5.out.size (by simp; omega)))
  have hap : ∀ x, x ∈ [gm] → x < w4.heap.size := fun x hx => by rw [List.mem_singleton] at hx; omega
  have HX7 := Lib.hid (HX5.out.mvL f7 hap)
  have HC7 := Lib.hid hc7
  have HLD := Lib.hid (by
    have := loads_any gt gm T HTK.out A7 c7 w7.heap.size n7 M7 w7 hc7 (hn7.nds (L := []) (Fr.refl _ _ _) (by simp)) (Nat.le_refl _) (small_right' hr7 hf7) (by rw [hf7]; exact hr7) HLN.out
    rw [hf7, ← HQ.out] at this
    exact this : Calls Tryz.prog 36 #[.slice A7 n7 c7, .pointer (some ⟨gt, 0, none⟩)] w7 (LoadsOut R q w7))
  clear f7 hc7 HAP F5 HC5 HX5 hn7 hf7 hr7
  go_wp2_with fail
  refine HLD.out.mono ?_
  rintro e w8 ⟨A8, c8, n8, X8, rfl, hx8, hf8, f8⟩
  have F8 := Lib.hid (F7.out.trans (f8.mono (B' := w.heap.size) (L' := []) F7.out.size (by simp)))
  have HXa := Lib.hid (HX7.out.mv f8)
  have HXb := Lib.hid hx8
  have HFb := Lib.hid hf8
  have hn58 : n8 = n5 := by
    have h1 := congrArg List.length hf8
    have h2 := congrArg List.length HF5.out
    rw [loads_len HIS.out q, ← h2] at h1
    unfold fstL at h1
    rw [List.length_map, List.length_map, ← hx8.num, ← HX7.out.num] at h1
    exact h1
  subst hn58
  have HSMq := Lib.hid (show q.length ≤ 100 by rw [HQ.out]; exact HLN.out)
  have hn8 : n8 ≤ 8 := by
    have h2 := congrArg List.length HF5.out
    unfold fstL at h2
    rw [List.length_map, List.length_map, ← HX7.out.num, normL_len] at h2
    rw [h2]
    exact HGL.out.len
  clear f8 hx8 hf8 HLD F7 HX7 HC7
  go_wp2_with fail
  go_loopg [14, 15, 16, 18, 20, 69] n8 (fun g s14 s15 s16 s18 s20 s69 wr => ∃ k : Nat, k ≤ n8 ∧ g = n8 - k ∧ s69 = .int .i64 k ∧ (s14 = undef ∨ ∃ a : Int, s14 = .int .i64 a) ∧ (s15 = undef ∨ ∃ a : Int, s15 = .int .i64 a) ∧ (s16 = undef ∨ ∃ a : Int, s16 = .int .i64 a) ∧ (s18 = undef ∨ ∃ a : Int, s18 = .int .i64 a) ∧ (s20 = undef ∨ ∃ a : Int, s20 = .int .i64 a) ∧ RowKit.Hid (Fr w8.heap.size [] w8 wr))
  case atStart => exact ⟨0, Nat.zero_le _, rfl, rfl, .inl rfl, .inl rfl, .inl rfl, .inl rfl, .inl rfl, Lib.hid (Fr.refl _ _ _)⟩
  case round =>
    obtain ⟨k, hk, rfl, rfl, h14, h15, h16, h18, h20, FR⟩ := hrel
    by_cases hkn : k < n8
    · have hki : (k : Int) < (n8 : Int) := by omega
      have hk0 : (0 : Int) ≤ (k : Int) := by omega
      have HLa := Lib.hid (HXa.out.mv FR.out)
      have HLb := Lib.hid (HXb.out.mv FR.out)
      obtain ⟨ma, hma⟩ : ∃ m, X5[k]? = some m := ⟨_, List.getElem?_eq_getElem (by rw [← HLa.out.num]; exact hkn)⟩
      obtain ⟨mb, hmb⟩ : ∃ m, X8[k]? = some m := ⟨_, List.getElem?_eq_getElem (by rw [← HLb.out.num]; exact hkn)⟩
      obtain ⟨⟨Aa, ca, hsa, _⟩, hoa⟩ := HLa.out.inn ma (List.mem_of_getElem? hma)
      obtain ⟨⟨Ab, cb, hsb, _⟩, hob⟩ := HLb.out.inn mb (List.mem_of_getElem? hmb)
      obtain ⟨xa, sa⟩ := ma
      obtain ⟨xb, sb⟩ := mb
      simp only at hsa hoa hsb hob
      subst hsa
      subst hsb
      have hxa : ((normL L).map (loadN q))[k]? = some xa := by rw [← HF5.out]; unfold fstL; rw [List.getElem?_map, hma]; rfl
      have hxb : ((normL R).map (loadN q))[k]? = some xb := by rw [← HFb.out]; unfold fstL; rw [List.getElem?_map, hmb]; rfl
      have HSS2 := Lib.hid (loads_same HGL.out HGR.out HIS.out q hxa hxb)
      have HSa := Lib.hid (load_small HGL.out HSMq.out (List.mem_of_getElem? hxa))
      have HSb := Lib.hid (load_small HGR.out HSMq.out (List.mem_of_getElem? hxb))
      obtain ⟨b3, o3, u3, rfl, hb3, hu3, hc3⟩ := (Reads.of_own HLa.out.own).one hkn
      rw [List.getElem?_map, hma] at hu3
      simp at hu3
      subst hu3
      obtain ⟨b4, o4, u4, rfl, hb4, hu4, hc4⟩ := (Reads.of_own HLb.out.own).one hkn
      rw [List.getElem?_map, hmb] at hu4
      simp at hu4
      subst hu4
      obtain ⟨na, hna⟩ : ∃ z, z = xa.length := ⟨_, rfl⟩
      obtain ⟨nb, hnb⟩ : ∃ z, z = xb.length := ⟨_, rfl⟩
      rw [← hna] at hoa hc3
      rw [← hnb] at hob hc4
      have HNa := Lib.hid hna
      have HNb := Lib.hid hnb
      have Ra := Lib.hid (Reads.of_own hoa)
      have Rb := Lib.hid (Reads.of_own hob)
      have C4 := Lib.hid (fun (wi : World) (hf : Fr wr.heap.size [] wr wi) => (hf.cell (p := ⟨b4, o4 + k, none⟩) hb4 (by simp)).trans hc4)
      have hna3 : na ≤ 3 := by rw [hna]; exact HSa.out.1
      have hnb3 : nb ≤ 3 := by rw [hnb]; exact HSb.out.1
      clear hoa hob hma hmb hxa hxb hna hnb hb3 hb4 hc4 HLa HLb
      go_wp2_with fail
      obtain ⟨wp, rfl⟩ : ∃ wp : World, wp = wr := ⟨_, rfl⟩
      go_loopg [15, 18, 77] na (fun g s15 s18 s77 wi => ∃ (j : Nat) (x : Int), j ≤ na ∧ g = na - j ∧ s15 = .int .i64 x ∧ s77 = .int .i64 j ∧ (s18 = undef ∨ ∃ a : Int, s18 = .int .i64 a) ∧ RowKit.Hid (x = (xa.take j).sum) ∧ RowKit.Hid (Fr wp.heap.size [] wp wi))
      case atStart => exact ⟨0, 0, Nat.zero_le _, rfl, rfl, rfl, h18, Lib.hid rfl, Lib.hid (Fr.refl _ _ _)⟩
      case round =>
        obtain ⟨j, x, hj, rfl, rfl, rfl, h18, HXS, FI⟩ := hrel
        by_cases hjn : j < na
        · have hji : (j : Int) < (na : Int) := by omega
          have hj0 : (0 : Int) ≤ (j : Int) := by omega
          obtain ⟨v, hv⟩ : ∃ v, xa[j]? = some v := ⟨_, List.getElem?_eq_getElem (by rw [← HNa.out]; exact hjn)⟩
          obtain ⟨b5, o5, u5, rfl, hb5, hu5, hc5⟩ := (Ra.out.fr FI.out (Nat.le_refl _) (by simp)).one hjn
          rw [List.getElem?_map, hv] at hu5
          simp at hu5
          subst hu5
          have hvv := HSa.out.2 v (List.mem_of_getElem? hv)
          have hss := sum_small HSa.out.2 j
          rw [← HXS.out] at hss
          have hwv : IntKind.i64.wrap (x + v) = x + v := by rw [IntKind.wrap_i64]; omega
          have HX2 := Lib.hid (show x + v = (xa.take (j + 1)).sum by rw [sum_take hv, ← HXS.out])
          clear hv hss hb5 hvv
          go_wp2_with fail
          go_roundg (na - (j + 1))
          case measure => omega
          case rel => exact ⟨j + 1, x + v, by omega, rfl, (by first | rfl | rw [hwv]), by go_num, .inr ⟨_, rfl⟩, HX2, FI⟩
        · obtain rfl : na = j := by omega
          have hxs := HXS.out
          rw [List.take_of_length_le (by rw [← HNa.out]; exact Nat.le_refl _)] at hxs
          have HXE := Lib.hid hxs
          have hc4 := C4.out _ FI.out
          have FP := Lib.hid (FR.out.trans (FI.out.mono (B' := w8.heap.size) (L' := []) FR.out.size (by simp)))
          have Rbi := Lib.hid (Rb.out.fr FI.out (Nat.le_refl _) (by simp))
          clear hxs HXS hc3
          go_wp2_with fail
          obtain ⟨wq, rfl⟩ : ∃ wq : World, wq = wr := ⟨_, rfl⟩
          go_loopg [16, 20, 90] nb (fun g s16 s20 s90 wj => ∃ (j : Nat) (y : Int), j ≤ nb ∧ g = nb - j ∧ s16 = .int .i64 y ∧ s90 = .int .i64 j ∧ (s20 = undef ∨ ∃ a : Int, s20 = .int .i64 a) ∧ RowKit.Hid (y = (xb.take j).sum) ∧ RowKit.Hid (Fr wq.heap.size [] wq wj))
          case atStart => exact ⟨0, 0, Nat.zero_le _, rfl, rfl, rfl, h20, Lib.hid rfl, Lib.hid (Fr.refl _ _ _)⟩
          case round =>
            obtain ⟨j, y, hj2, rfl, rfl, rfl, h20, HYS, FJ⟩ := hrel
            by_cases hjn : j < nb
            · have hji : (j : Int) < (nb : Int) := by omega
              have hj0 : (0 : Int) ≤ (j : Int) := by omega
              obtain ⟨v, hv⟩ : ∃ v, xb[j]? = some v := ⟨_, List.getElem?_eq_getElem (by rw [← HNb.out]; exact hjn)⟩
              obtain ⟨b5, o5, u5, rfl, hb5, hu5, hc5⟩ := (Rbi.out.fr FJ.out (FI.out.size) (by simp)).one hjn
              rw [List.getElem?_map, hv] at hu5
              simp at hu5
              subst hu5
              have hvv := HSb.out.2 v (List.mem_of_getElem? hv)
              have hss := sum_small HSb.out.2 j
              rw [← HYS.out] at hss
              have hwv : IntKind.i64.wrap (y + v) = y + v := by rw [IntKind.wrap_i64]; omega
              have HY2 := Lib.hid (show y + v = (xb.take (j + 1)).sum by rw [sum_take hv, ← HYS.out])
              clear hv hss hb5 hvv
              go_wp2_with fail
              go_roundg (nb - (j + 1))
              case measure => omega
              case rel => exact ⟨j + 1, y + v, by omega, rfl, (by first | rfl | rw [hwv]), by go_num, .inr ⟨_, rfl⟩, HY2, FJ⟩
            · obtain rfl : nb = j := by omega
              have hys := HYS.out
              rw [List.take_of_length_le (by rw [← HNb.out]; exact Nat.le_refl _), ← HSS2.out, ← HXE.out] at hys
              subst hys
              have FQ := Lib.hid (FP.out.trans (FJ.out.mono (B' := w8.heap.size) (L' := []) FP.out.size (by simp)))
              clear HYS HXE
              go_wp2_with fail
              go_roundg (n8 - (k + 1))
              case measure => omega
              case rel => exact ⟨k + 1, by omega, rfl, by go_num, .inr ⟨_, rfl⟩, .inr ⟨_, rfl⟩, .inr ⟨_, rfl⟩, h18, h20, FQ⟩
    · obtain rfl : n8 = k := by omega
      have FW := Lib.hid (F8.out.trans (FR.out.mono (B' := w.heap.size) (L' := []) F8.out.size (by simp)))
      go_wp2_with fail
      go_ret
      exact ⟨rfl, FW.out.below⟩
end Go.Proofs.YtfakgidimekikaaGreat
namespace Go.Proofs.YtfakgidimekikaaGreat
open Go.ChangeShapes Go.WideShapes Go.ChangeAt Go.RowKit Go.Fb
set_option linter.unusedVariables false

set_option maxRecDepth 100000 in
theorem lifted_RemapLoads (os : Os) (started : os.Started) (H : Type) (enc : TypeId × Value → H) :
    ReturnsInHanded {} Tryz.checked os 7 .any (Rows.remapLoadsSpec.pre6 enc Tryz.prog Tryz.f7 Rows.remapLoadsRow.domain false) (Rows.remapLoadsSpec.post enc Tryz.prog Tryz.f7 false true false false) := by
  refine returnsInHanded_of_change (C := Tryz.checked) (show ownKnob Tryz.prog.godebug = none by kernel_rfl) started (by kernel_rfl) Tryz.func7
    (ChangeSpec.witness6 (enc := enc) (C := Tryz.checked) false ⟨#[], #[.slice none 0 0, .slice none 0 0, .slice none 0 0], []⟩ 8 (by kernel_rfl) (by kernel_rfl) (by kernel_rfl) (by kernel_rfl)) ?_
  intro W base args ds gs before hval0 hW hcnd _
  have hval : ∀ (j : Nat) t v, Tryz.f7.params[j]? = some t → args[j]? = some v → Value.okWide Tryz.prog W .any base t v := hval0
  have hW' := hW
  obtain ⟨p, q, hA0, hV, rfl, hfz, hnd⟩ := hW
  have hA : DataW.TrodAll enc Tryz.prog W 0 (fun _ => true) true Tryz.f7.params.toList args.toList ds p := hA0
  rw [Tryz.params7] at hA hval
  obtain ⟨v0, vs0, d0, ds0, p0, q0, hargs, rfl, rfl, h0, r0'⟩ := trodAll_cons hA
  obtain ⟨v1, vs1, d1, ds1, p1, q1, rfl, rfl, rfl, h1, r1'⟩ := trodAll_cons r0'
  obtain ⟨v2, vs2, d2, ds2, p2, q2, rfl, rfl, rfl, h2, r2'⟩ := trodAll_cons r1'
  obtain ⟨rfl, rfl, rfl⟩ := trodAll_nil r2'
  obtain rfl : args = #[v0, v1, v2] := by cases args; simp_all
  obtain ⟨rfl, rfl⟩ := trodVars_none hV
  have k0 := h0
  have lt0 : ∀ x ∈ p0, x.block < W.heap.size := by obtain ⟨m, hm⟩ := k0; exact DataW.trod_lt m _ _ _ hm
  have k1 := h1
  have lt1 : ∀ x ∈ p1, x.block < W.heap.size := by obtain ⟨m, hm⟩ := k1; exact DataW.trod_lt m _ _ _ hm
  have k2 := h2
  have lt2 : ∀ x ∈ p2, x.block < W.heap.size := by obtain ⟨m, hm⟩ := k2; exact DataW.trod_lt m _ _ _ hm
  obtain ⟨A0, c0, e0, rfl, g0, m0, r0⟩ := arg_ents (hval 0 33 v0 rfl rfl) h0
  obtain ⟨A1, n1, c1, M1, rfl, l1, m1, r1, wf1⟩ := arg_nodes (hval 1 34 v1 rfl rfl) h1
  obtain ⟨A2, n2, c2, M2, rfl, l2, m2, r2, wf2⟩ := arg_steps (hval 2 35 v2 rfl rfl) h2
  clear hA0 hval0
  refine (walk_RemapLoads A0 e0.length c0 e0 rfl g0 m0 A1 n1 c1 M1 l1 m1 A2 n2 c2 M2 l2 m2 W r0 r1 wf1.cap r2 wf2.cap).mono fun e W' ⟨he, bel⟩ => ?_
  subst he
  exact ⟨_, rfl, _, _, _, [], _, [], hW', trodAll_mk1 (shut_bool Tryz.underlying4 _), (trodAll_cons_mk (Below.trod (show laidOutB Tryz.prog = true by kernel_rfl) (by kernel_rfl) (of_decide_eq_true (by kernel_rfl)) k0 bel lt0) (trodAll_cons_mk (Below.trod (show laidOutB Tryz.prog = true by kernel_rfl) (by kernel_rfl) (of_decide_eq_true (by kernel_rfl)) k1 bel lt1) (trodAll_cons_mk (Below.trod (show laidOutB Tryz.prog = true by kernel_rfl) (by kernel_rfl) (of_decide_eq_true (by kernel_rfl)) k2 bel lt2) trodAll_mk0))), rfl, bel.frame _, fun h => by cases h⟩

theorem RemapLoads_holds : Rows.RemapLoadsSaid :=
  OpenClaim.holds_of_wide 7 Tryz.f7 rfl rfl rfl rfl rfl rfl rfl ⟨rfl, rfl, rfl, rfl, rfl⟩ rfl rfl rfl rfl rfl (by kernel_rfl) Tryz.func7 (by kernel_rfl)
    (of_decide_eq_true (by kernel_rfl)) (by unfold Func.isWrapper; first | (rw [if_pos (by decide +kernel)]; kernel_rfl) | (rw [if_neg (by decide +kernel)]; exact ⟨rfl, rfl⟩))
    (fun os started H enc _ => lifted_RemapLoads os started H enc)
#print axioms RemapLoads_holds
end Go.Proofs.YtfakgidimekikaaGreat
