/- The contracts of graph.Check and graph.Order. -/
import Derived.Test.YtddngibfhklnfaaNdK
import Derived.Test.YtddngibfhklnfaaNdF
import Derived.Test.YtddngibfhklnfaaGrQ
namespace Go.Proofs.Ytddngibfhklnfaa
open Go.RowKit Go.Fb
theorem checkN_bad {L : List Nd} (h8 : L.length ≤ 8) {x : Nd} (hx : x ∈ L) (hb : nodeB L x = false) : checkN L = 10 := by
  unfold checkN
  rw [if_neg (by omega), if_neg]
  intro h
  rw [Bool.and_eq_true, List.all_eq_true] at h
  have := h.1 x hx
  rw [hb] at this
  cases this
theorem checkN_good {L : List Nd} (h8 : L.length ≤ 8) (ha : ∀ x ∈ L, nodeB L x = true) : checkN L = if unlikeB (idsN L) && (hasI (idsN L) 0 && decide ((sortN L).length = L.length)) then 0 else 10 := by
  unfold checkN
  have : L.all (nodeB L) = true := List.all_eq_true.2 ha
  rw [if_neg (by omega), this, Bool.true_and]
set_option maxRecDepth 100000 in
set_option maxHeartbeats 4000000 in
theorem gcheck_any (A : Option Addr) (c B n : Nat) (M : List Ndm) (w : World) (h : Nds w B A n M) (hB : B ≤ w.heap.size) (hs : Small M) :
    Calls Try.prog 15 #[.slice A n c] w fun e w' => e = .returned (.int .i64 (checkN (fstN M))) ∧ Fr w.heap.size [] w w' := by
  obtain ⟨L, hL⟩ : ∃ L, L = fstN M := ⟨_, rfl⟩
  have hnl : L.length = n := by rw [hL, h.num]; simp [fstN]
  obtain ⟨cv, hcv⟩ : ∃ v, v = checkN L := ⟨_, rfl⟩
  rw [← hL, ← hcv]
  have HCV := Lib.hid hcv
  have HL := Lib.hid hL
  have HNL := Lib.hid hnl
  have H := Lib.hid h
  have HN := Lib.hid h.num
  have HS := Lib.hid hs
  clear h hs hL hnl hcv
  by_cases h8 : 8 < n
  · have hn1 : n ≤ 1000000 := by rw [HN.out]; exact HS.out.1
    have hv : cv = 6 := by rw [HCV.out]; exact checkN_long.2 (by rw [HNL.out]; exact h8)
    have HV := Lib.hid hv
    clear hv
    go_enter Try.func15, Try.ntmps15
    go_wp2_with fail
    go_ret
    exact ⟨by rw [HV.out]; rfl, Fr.refl _ _ _⟩
  have hn8 : n ≤ 8 := by omega
  go_enter Try.func15, Try.ntmps15
  go_wp2_with fail
  go_loopg [3, 11] n (fun g s3 s11 wr => ∃ (k : Nat) (A' : Option Addr) (c' : Nat), k ≤ n ∧ g = n - k ∧ s11 = .int .i64 k ∧ s3 = .slice A' k c' ∧ RowKit.Hid (∀ x ∈ L.take k, nodeB L x = true) ∧ RowKit.Hid (wr.ownsRow w.heap.size 3 1 (.slice A' k c') k ((idsN (L.take k)).map (Value.int .i64))) ∧ RowKit.Hid (Fr w.heap.size [] w wr))
  case atStart => exact ⟨0, none, 0, Nat.zero_le _, rfl, rfl, rfl, Lib.hid (by simp), Lib.hid (World.ownsRow_nil _ _ _ _), Lib.hid (Fr.refl _ _ _)⟩
  case round =>
    obtain ⟨k, A', c', hk, rfl, rfl, rfl, HG, HO, FR⟩ := hrel
    by_cases hkn : k < n
    · have hki : (k : Int) < (n : Int) := by omega
      have hk0 : (0 : Int) ≤ (k : Int) := by omega
      obtain ⟨m, hx⟩ : ∃ m, M[k]? = some m := ⟨_, List.getElem?_eq_getElem (by rw [← HN.out]; exact hkn)⟩
      have HND := H.out.frw FR.out hB (by simp)
      obtain ⟨b1, o1, rfl, hb1, hc1⟩ := HND.get hx
      have hin := HND.inn m (List.mem_of_getElem? hx)
      have hsm := HS.out.2 m (List.mem_of_getElem? hx)
      have HTK := Lib.hid (show L.take (k + 1) = L.take k ++ [m.1] by rw [List.take_add_one, HL.out]; simp [fstN, hx])
      have HMEM := Lib.hid (show m.1 ∈ L by rw [HL.out]; exact List.mem_map.2 ⟨m, List.mem_of_getElem? hx, rfl⟩)
      obtain ⟨x, sf, sp⟩ := m
      have hBr : B ≤ wr.heap.size := Nat.le_trans hB FR.out.size
      have fa := (Fr.refl wr.heap.size [] wr).alloc (Nat.le_refl _) (.cells (ndA x sf sp) 38)
      have HW := node_any x sf sp (some ⟨b1, o1, none⟩) c B n M (wr.alloc (.cells (ndA x sf sp) 38)) (hin.frw fa hBr (by simp)) (HND.frw fa hBr (by simp)) (Nat.le_trans hBr fa.size) HS.out hsm.1 hsm.2
      have BX := Lib.hid (Blk.new wr 38 (ndA x sf sp))
      have HOa := Lib.hid (ownsRow_fr HO.out fa (fun q hq => ⟨(HO.out.lt q hq).2, by simp⟩))
      have FRa := Lib.hid (FR.out.trans (fa.mono (B' := w.heap.size) (L' := []) FR.out.size (by simp)))
      obtain ⟨⟨Af, cf, hf1, _⟩, ⟨Ap, cp, hp1, _⟩⟩ := hin
      simp only at hf1 hp1 hsm HTK HMEM
      subst hf1
      subst hp1
      obtain ⟨nb, hnb⟩ : ∃ b, b = nodeB L x := ⟨_, rfl⟩
      rw [show (M.map (·.1)) = L from HL.out.symm, ← hnb] at HW
      have HW := Lib.hid HW
      have HNB := Lib.hid hnb
      obtain ⟨g0, g1, g2, g3, g4, g5, g6, g7, g8, g9, g10, g11, g12⟩ := ndL_get (x, .slice Af x.fr.length cf, .slice Ap x.pg.length cp)
      have p0 := hc1 0 _ g0
      have p1 := hc1 1 _ g1
      have p2 := hc1 2 _ g2
      have p3 := hc1 3 _ g3
      have p4 := hc1 4 _ g4
      have p5 := hc1 5 _ g5
      have p6 := hc1 6 _ g6
      have p7 := hc1 7 _ g7
      have p8 := hc1 8 _ g8
      have p9 := hc1 9 _ g9
      have p10 := hc1 10 _ g10
      have p11 := hc1 11 _ g11
      have p12 := hc1 12 _ g12
      simp only [Nat.add_zero] at p0
      obtain ⟨nf, hnf⟩ : ∃ z, z = x.fr.length := ⟨_, rfl⟩
      obtain ⟨np, hnp⟩ : ∃ z, z = x.pg.length := ⟨_, rfl⟩
      rw [← hnf] at p2 HW BX HOa FRa
      rw [← hnp] at p3 HW BX HOa FRa
      clear hc1 hx g0 g1 g2 g3 g4 g5 g6 g7 g8 g9 g10 g11 g12 HND hsm hnf hnp fa HO FR hb1 hnb
      go_upto_region 7 with fail
      clear p0 p1 p2 p3 p4 p5 p6 p7 p8 p9 p10 p11 p12
      generalize wr.alloc (.cells (ndA x (.slice Af nf cf) (.slice Ap np cp)) 38) = wa at *
      generalize wr.heap.size = gx at *
      have q0 := BX.out.cell 0
      have q1 := BX.out.cell 1
      have q2 := BX.out.cell 2
      have q3 := BX.out.cell 3
      have q4 := BX.out.cell 4
      have q5 := BX.out.cell 5
      have q6 := BX.out.cell 6
      have q7 := BX.out.cell 7
      have q8 := BX.out.cell 8
      have q9 := BX.out.cell 9
      have q10 := BX.out.cell 10
      have q11 := BX.out.cell 11
      have q12 := BX.out.cell 12
      simp at q0 q1 q2 q3 q4 q5 q6 q7 q8 q9 q10 q11 q12
      cases nb with
      | false =>
        have hv : cv = 10 := by rw [HCV.out]; exact checkN_bad (by rw [HNL.out]; exact hn8) HMEM.out HNB.out.symm
        have HV := Lib.hid hv
        clear hv
        go_wp2_with fail
        refine HW.out.mono ?_
        rintro e w2 ⟨rfl, f2⟩
        have F2 := Lib.hid (FRa.out.trans (f2.mono (B' := w.heap.size) (L' := []) FRa.out.size (by simp)))
        clear f2 HW
        go_wp2_with fail
        go_ret
        exact ⟨by rw [HV.out]; rfl, F2.out⟩
      | true =>
        go_wp2_with fail
        refine HW.out.mono ?_
        rintro e w2 ⟨rfl, f2⟩
        have HO2 := Lib.hid (ownsRow_fr HOa.out f2 (fun q hq => ⟨(HOa.out.lt q hq).2, by simp⟩))
        have F2 := Lib.hid (FRa.out.trans (f2.mono (B' := w.heap.size) (L' := []) FRa.out.size (by simp)))
        have BX2 := Lib.hid (BX.out.fr f2 BX.out.lt (by simp))
        clear f2 HW q0 q1 q2 q3 q4 q5 q6 q7 q8 q9 q10 q11 q12 BX HOa FRa
        have q0 := BX2.out.cell 0
        simp at q0
        have hown := HO2.out
        have hsz := F2.out.size
        go_wp2_with (at_builtin; refine wpList_app_lit _ rfl (.tmp 19) (.tmp 22) intsTy rfl w.heap.size (.slice A' k c') k _ rfl hown 1 1 _ rfl rfl (by simp [Value.oneCell']) (by omega) (by omega) hsz ?_; intro A3 c3 w4 hown4 hg4 hat4)
        have F4 := Lib.hid (F2.out.trans (Fr.of_app hg4 hown hsz))
        have HO4 := Lib.hid hown4
        clear hown4 hg4 hat4 hown
        go_roundg (n - (k + 1))
        case measure => omega
        case rel => exact ⟨k + 1, A3, c3, by omega, rfl, by go_num, rfl, Lib.hid (by
          rw [HTK.out]
          intro y hy
          rcases List.mem_append.1 hy with hy | hy
          · exact HG.out y hy
          · rw [List.mem_singleton.1 hy]; exact HNB.out.symm), by rw [HTK.out]; simpa [idsN] using HO4, F4⟩
    · obtain rfl : k = n := by omega
      have htk : L.take k = L := List.take_of_length_le (by rw [HNL.out]; exact Nat.le_refl _)
      rw [htk] at HG HO
      have HGOOD := Lib.hid (checkN_good (by rw [HNL.out]; exact hn8) HG.out)
      have hln : k = (idsN L).length := by simp [idsN, HNL.out]
      have HLN := Lib.hid hln
      have HU := unlike_any A' k c' _ (idsN L) wr hln (by omega) (Reads.of_own HO.out) (Nat.le_refl _)
      obtain ⟨ub, hub⟩ : ∃ b, b = unlikeB (idsN L) := ⟨_, rfl⟩
      obtain ⟨zb, hzb⟩ : ∃ b, b = hasI (idsN L) 0 := ⟨_, rfl⟩
      rw [← hub] at HU HGOOD
      rw [← hzb] at HGOOD
      have HZB := Lib.hid hzb
      have HU := Lib.hid HU
      clear htk hln hub hzb
      cases ub with
      | false =>
        have hv : cv = 10 := by rw [HCV.out, HGOOD.out]; rfl
        have HV := Lib.hid hv
        clear hv
        go_wp2_with fail
        refine HU.out.mono ?_
        rintro e w2 ⟨rfl, f2⟩
        have F2 := Lib.hid (FR.out.trans (f2.mono (B' := w.heap.size) (L' := []) FR.out.size (by simp)))
        clear f2 HU
        go_wp2_with fail
        go_ret
        exact ⟨by rw [HV.out]; rfl, F2.out⟩
      | true =>
        go_wp2_with fail
        refine HU.out.mono ?_
        rintro e w2 ⟨rfl, f2⟩
        have F2 := Lib.hid (FR.out.trans (f2.mono (B' := w.heap.size) (L' := []) FR.out.size (by simp)))
        have HO2 := ownsRow_fr HO.out f2 (fun q hq => ⟨(HO.out.lt q hq).2, by simp⟩)
        have HC := ihas_any 0 A' c' _ k (idsN L) w2 HLN.out (by omega) (Reads.of_own HO2) (Nat.le_refl _)
        rw [← HZB.out] at HC
        have HC := Lib.hid HC
        clear f2 HU HO2 HZB
        cases zb with
        | false =>
          have hv : cv = 10 := by rw [HCV.out, HGOOD.out]; rfl
          have HV := Lib.hid hv
          clear hv
          go_wp2_with fail
          refine HC.out.mono ?_
          rintro e w3 ⟨rfl, f3⟩
          have F3 := Lib.hid (F2.out.trans (f3.mono (B' := w.heap.size) (L' := []) F2.out.size (by simp)))
          clear f3 HC
          go_wp2_with fail
          go_ret
          exact ⟨by rw [HV.out]; rfl, F3.out⟩
        | true =>
          go_wp2_with fail
          refine HC.out.mono ?_
          rintro e w3 ⟨rfl, f3⟩
          have F3 := Lib.hid (F2.out.trans (f3.mono (B' := w.heap.size) (L' := []) F2.out.size (by simp)))
          have HSO := sort_any A c B k M w3 (H.out.frw F3.out hB (by simp)) (Nat.le_trans hB F3.out.size) HS.out (by omega)
          rw [← HL.out] at HSO
          have HSO := Lib.hid HSO
          clear f3 HC
          go_wp2_with fail
          refine HSO.out.mono ?_
          rintro e w4 ⟨A4, c4, q, hq, rfl, _, f4⟩
          have F4 := Lib.hid (F3.out.trans (f4.mono (B' := w.heap.size) (L' := []) F3.out.size (by simp)))
          have HQ := Lib.hid hq
          clear f4 HSO hq
          by_cases hqk : q = k
          · have hv : cv = 0 := by rw [HCV.out, HGOOD.out, ← HQ.out, HNL.out, decide_eq_true hqk]; rfl
            have HV := Lib.hid hv
            subst hqk
            clear hv
            go_wp2_with fail
            go_ret
            exact ⟨by rw [HV.out]; rfl, F4.out⟩
          · have hv : cv = 10 := by rw [HCV.out, HGOOD.out, ← HQ.out, HNL.out, decide_eq_false hqk]; rfl
            have HV := Lib.hid hv
            have hne : ((q : Int) == (k : Int)) = false := by simp; omega
            have hne2 : ((q : Int) != (k : Int)) = true := by simp; omega
            clear hv
            go_wp2_with fail
            go_ret
            exact ⟨by rw [HV.out]; rfl, F4.out⟩
/-- The order. -/
def orderN (L : List Nd) : List Int := if checkN L = 0 then sortN L else []
set_option maxRecDepth 100000 in
set_option maxHeartbeats 1000000 in
theorem order_any (A : Option Addr) (c B n : Nat) (M : List Ndm) (w : World) (h : Nds w B A n M) (hB : B ≤ w.heap.size) (hs : Small M) :
    Calls Try.prog 16 #[.slice A n c] w (IntsOut (orderN (fstN M)) w) := by
  have HC := gcheck_any A c B n M w h hB hs
  obtain ⟨L, hL⟩ : ∃ L, L = fstN M := ⟨_, rfl⟩
  obtain ⟨cv, hcv⟩ : ∃ v, v = checkN L := ⟨_, rfl⟩
  rw [← hL, ← hcv] at HC
  rw [← hL]
  by_cases h0 : cv = 0
  · subst h0
    have hr := checkN_zero.1 hcv.symm
    have hn : n ≤ 20 := by have := hr.len; rw [hL] at this; simp [fstN] at this; rw [h.num]; omega
    have HO := fun (w' : World) (hf : Fr w.heap.size [] w w') => sort_any A c B n M w' (h.frw hf hB (by simp)) (Nat.le_trans hB hf.size) hs hn
    rw [← hL] at HO
    have hv : orderN L = sortN L := by unfold orderN; rw [if_pos hcv.symm]
    have HO := Lib.hid HO
    have HV := Lib.hid hv
    have HC := Lib.hid HC
    clear h hs hL hcv hr hv
    go_enter Try.func16, Try.ntmps16
    go_wp2_with fail
    refine HC.out.mono ?_
    rintro e w1 ⟨rfl, f1⟩
    have F1 := Lib.hid f1
    clear f1
    go_wp2_with fail
    refine (HO.out _ F1.out).mono ?_
    rintro e w2 ⟨A', c', k, hk, rfl, ho, f2⟩
    have HOUT := Lib.hid (show IntsOut (orderN L) w (.returned (.slice A' k c')) w2 from ⟨A', c', k, by rw [HV.out]; exact hk, rfl, by rw [HV.out]; exact ownsRow_base ho F1.out.size, F1.out.trans (f2.mono (B' := w.heap.size) (L' := []) F1.out.size (by simp))⟩)
    clear hk ho f2
    go_wp2_with fail
    go_ret
    exact HOUT.out
  · have hv : orderN L = [] := by unfold orderN; rw [if_neg (by rw [← hcv]; exact h0)]
    have HV := Lib.hid hv
    have HC := Lib.hid HC
    have hb0 : (cv == 0) = false := by simpa using h0
    have hb1 : (cv != 0) = true := by simpa using h0
    clear h hs hL hcv hv
    go_enter Try.func16, Try.ntmps16
    go_wp2_with fail
    refine HC.out.mono ?_
    rintro e w1 ⟨rfl, f1⟩
    have F1 := Lib.hid f1
    clear f1
    go_wp2_with fail
    go_ret
    unfold IntsOut
    rw [HV.out]
    exact ⟨none, 0, 0, rfl, rfl, World.ownsRow_nil _ _ _ _, F1.out⟩
end Go.Proofs.Ytddngibfhklnfaa
