/- Texts merged into one, for the number of files a claim may have: RfS, RfSt, RfAp. -/
import Derived.Test.YtfakgidimekikaaGreatMI
import Derived.Test.YtfakgidimekikaaGreatMRfD
import Derived.Test.YtfakgidimekikaaGreatMF
namespace Go.Proofs.YtfakgidimekikaaGreat
open Go.RowKit Go.Fb
set_option linter.unusedVariables false
theorem child_any_iff (L : List Nd) (id : Int) : (L.any fun x => hasI x.fr id) = decide ((childN L id).length ≠ 0) := by
  rw [Bool.eq_iff_iff, List.any_eq_true, decide_eq_true_eq]
  constructor
  · rintro ⟨x, hx, h⟩ h0
    have : x.id ∈ childN L id := childN_mem.2 ⟨x, hx, rfl, hasI_iff.1 h⟩
    rw [List.eq_nil_of_length_eq_zero h0] at this
    cases this
  · intro h
    cases hc : childN L id with
    | nil => rw [hc] at h; simp at h
    | cons c t =>
      obtain ⟨x, hx, _, hf⟩ := childN_mem.1 (show c ∈ childN L id by rw [hc]; simp)
      exact ⟨x, hx, hasI_iff.2 hf⟩
set_option maxRecDepth 100000 in
set_option maxHeartbeats 1000000 in
theorem rchildren_any (id : Int) (A : Option Addr) (c B n : Nat) (M : List Ndm) (w : World) (h : Nds w B A n M) (hs : Small M) :
    Calls Tryz.prog 93 #[.slice A n c, .int .i64 id] w fun e w' => e = .returned (.bool (decide ((childN (fstN M) id).length ≠ 0))) ∧ w = w' := by
  have H := Lib.hid h
  have HS := Lib.hid hs
  have HN := Lib.hid h.num
  obtain ⟨L, hL⟩ : ∃ L, L = fstN M := ⟨_, rfl⟩
  have HL := Lib.hid hL
  obtain ⟨v, hv⟩ : ∃ v, v = decide ((childN L id).length ≠ 0) := ⟨_, rfl⟩
  rw [← hL, ← hv]
  have HV := Lib.hid (show v = L.any fun x => hasI x.fr id by rw [hv, child_any_iff])
  have hn6 : n ≤ 1000000 := by rw [h.num]; exact hs.1
  clear h hL hv hs
  go_enter Tryz.func93, Tryz.ntmps93
  go_wp2_with fail
  go_loop [5] (fun s => ∃ k : Nat, k ≤ n ∧ s = .int .i64 k ∧ RowKit.Hid (∀ x ∈ L.take k, hasI x.fr id = false)) (fun s => n - (intOf s).toNat)
  case atStart => exact ⟨0, Nat.zero_le _, rfl, Lib.hid (by simp)⟩
  case round =>
    obtain ⟨k, hk, rfl, HB⟩ := hrel
    by_cases hkn : k < n
    · have hki : (k : Int) < (n : Int) := by omega
      have hk0 : (0 : Int) ≤ (k : Int) := by omega
      obtain ⟨m, hx⟩ : ∃ m, M[k]? = some m := ⟨_, List.getElem?_eq_getElem (by rw [← HN.out]; exact hkn)⟩
      obtain ⟨b1, o1, rfl, hb1, hc1⟩ := H.out.get hx
      have p2 := hc1 2 _ (ndL_get m).2.2.1
      have hin := H.out.inn m (List.mem_of_getElem? hx)
      have hsm := HS.out.2 m (List.mem_of_getElem? hx)
      have HTK := Lib.hid (show L.take (k + 1) = L.take k ++ [m.1] by rw [HL.out]; exact fst_take hx)
      have HMM := Lib.hid (show m.1 ∈ L by rw [HL.out]; exact List.mem_map.2 ⟨m, List.mem_of_getElem? hx, rfl⟩)
      obtain ⟨x, sf, sp⟩ := m
      obtain ⟨⟨Af, cf, hf1, hf2⟩, _⟩ := hin
      simp only at hf1 hf2 p2 HTK HMM hsm
      subst hf1
      have HH := rhas_any id Af cf B x.fr.length x.fr w rfl hsm.1 hf2
      obtain ⟨b, hb⟩ : ∃ b, b = hasI x.fr id := ⟨_, rfl⟩
      obtain ⟨nf, hnf⟩ : ∃ z, z = x.fr.length := ⟨_, rfl⟩
      rw [← hb, ← hnf] at HH
      rw [← hnf] at p2
      have HH := Lib.hid HH
      have HBB := Lib.hid hb
      clear hc1 hx hf2 hsm hb hnf
      cases b with
      | true =>
        have HV1 := Lib.hid (show v = true by rw [HV.out, List.any_eq_true]; exact ⟨x, HMM.out, HBB.out.symm⟩)
        go_wp2_with fail
        refine HH.out.mono ?_
        rintro e w2 ⟨rfl, rfl⟩
        go_wp2_with fail
        go_ret
        exact ⟨by rw [HV1.out]; rfl, rfl⟩
      | false =>
        have HB2 := Lib.hid (show ∀ y ∈ L.take (k + 1), hasI y.fr id = false from fun y hy => by
          rw [HTK.out] at hy
          rcases List.mem_append.1 hy with hy | hy
          · exact HB.out y hy
          · simp at hy; rw [hy]; exact HBB.out.symm)
        go_wp2_with fail
        refine HH.out.mono ?_
        rintro e w2 ⟨rfl, rfl⟩
        go_wp2_with fail
        go_round
        case rel => exact ⟨k + 1, by omega, by go_num, HB2⟩
        case measure => simp [intOf]; omega
    · obtain rfl : k = n := by omega
      have HV1 := Lib.hid (show v = false by
        rw [HV.out, List.any_eq_false]
        intro x hx
        have htk : L.take k = L := List.take_of_length_le (by rw [HL.out, HN.out]; simp [fstN])
        rw [← htk] at hx
        rw [HB.out x hx]
        simp)
      go_wp2_with fail
      go_ret
      exact ⟨by rw [HV1.out]; rfl, rfl⟩
/-- What the document's step leaves. -/
def RStepOut (r : Int × List Nd) (w : World) (e : Ending) (w' : World) : Prop :=
  (r.1 ≠ 0 ∧ e = .returned (.tuple #[.slice none 0 0, .int .i64 r.1]) ∧ Fr w.heap.size [] w w') ∨
  (r.1 = 0 ∧ ∃ A c n M, e = .returned (.tuple #[.slice A n c, .int .i64 0]) ∧ Nds w' w'.heap.size A n M ∧ fstN M = r.2 ∧ CapN M ∧ n ≤ c ∧ RightG r.2 ∧ Fr w.heap.size [] w w')
theorem rowns_empty (w : World) : (w.alloc (.cells #[] 50)).ownsRow w.heap.size 50 13 (.slice (some ⟨w.heap.size, 0, none⟩) 0 0) 0 [] := by
  refine ⟨rfl, .inr ⟨w.heap.size, 0, #[], rfl, Nat.le_refl _, Blk.new _ _ _, ?_⟩⟩
  simp
theorem ndl_one {M : List Ndm} {w : World} {B : Nat} (h : ∀ m ∈ M, NdIn w B m) : ∀ u ∈ cellsN M, u.oneCell' = true := ndOnes fun m hm => slN_of (h m hm)
theorem nds_parts {w : World} {B n b off : Nat} {M : List Ndm} (h : Nds w B (some ⟨b, off, none⟩) n M) {k : Nat} (hk : k < n) :
    Reads w B 13 (some ⟨b, off, none⟩) k (cellsN (M.take k)) ∧ Reads w B 13 (some ⟨b, off + (k + 1) * 13, none⟩) (n - (k + 1)) (cellsN (M.drop (k + 1))) := by
  obtain ⟨b2, off2, e, hb, hc⟩ := h.rd.2 (by omega)
  injection e with e
  injection e with e1 e2 _
  subst e1
  subst e2
  have hn := h.num
  refine ⟨⟨by rw [cellsN_length, List.length_take]; congr 1; omega, fun _ => ⟨b, off, rfl, hb, fun j u hu => ?_⟩⟩, ⟨by rw [cellsN_length, List.length_drop, ← hn], fun _ => ⟨b, _, rfl, hb, fun j u hu => ?_⟩⟩⟩
  · refine hc j u ?_
    have e : cellsN M = cellsN (M.take k) ++ cellsN (M.drop k) := by rw [← cellsN_app, List.take_append_drop]
    rw [e, List.getElem?_append_left (by rcases Nat.lt_or_ge j (cellsN (M.take k)).length with h | h; exact h; rw [List.getElem?_eq_none h] at hu; cases hu)]
    exact hu
  · rw [Nat.add_assoc]
    refine hc _ u ?_
    have e : cellsN M = cellsN (M.take (k + 1)) ++ cellsN (M.drop (k + 1)) := by rw [← cellsN_app, List.take_append_drop]
    have hl : (cellsN (M.take (k + 1))).length = (k + 1) * 13 := by rw [cellsN_length, List.length_take]; congr 1; omega
    rw [e, List.getElem?_append_right (by omega), hl, Nat.add_sub_cancel_left]
    exact hu
/-- What the changed list is to be, for the document's last look. -/
structure Endg (rc : Int × List Nd) (L : List Nd) (s : Stp) (w0 w : World) (A : Option Addr) (n c : Nat) (M : List Ndm) : Prop where
  zero : rc.1 = 0
  nds : Nds w w.heap.size A n M
  fst : fstN M = rc.2
  cap : CapN M
  sml : Small M
  fr : Fr w0.heap.size [] w0 w
  le : n ≤ c
theorem own_le {w : World} {base e size n c : Nat} {A : Option Addr} {xs : List Value} (h : w.ownsRow base e size (.slice A n c) n xs) : n ≤ c := by
  obtain ⟨_, _, he, _, hc, _⟩ := ownsRow_shape h
  injection he with _ _ h3
  subst h3
  exact hc
theorem endg_set {rc : Int × List Nd} {L : List Nd} {s : Stp} {w w4 : World} {A A6 : Option Addr} {n c2 B k : Nat} {M : List Ndm} {m' : Ndm} (hz : rc.1 = 0) (H : Nds w B A n M) (hB : B ≤ w.heap.size) (hF : Fr w.heap.size [] w w4)
    (hrd : Reads w4 w4.heap.size 13 A6 n (cellsN (M.set k m'))) (hin : NdIn w4 B m') (hf : fstN (M.set k m') = rc.2) (hc : CapN M) (hc' : ∀ A n c, m'.2.1 = .slice A n c → n ≤ c) (hs : Small (M.set k m')) (hle : n ≤ c2) : Endg rc L s w w4 A6 n c2 (M.set k m') := by
  refine ⟨hz, ⟨by rw [List.length_set]; exact H.num, hrd, fun m hm => ?_⟩, hf, fun m hm => ?_, hs, hF, hle⟩
  · rcases List.mem_or_eq_of_mem_set hm with hm | rfl
    · exact ((H.inn m hm).frw hF hB (by simp)).more (Nat.le_trans hB hF.size)
    · exact hin.more (Nat.le_trans hB hF.size)
  · rcases List.mem_or_eq_of_mem_set hm with hm | rfl
    · exact hc m hm
    · exact hc'
theorem nest_eight (w : World) (g o : Nat) (u5 u6 u7 u8 u9 u10 u11 u12 : Value) : (((((((w.setCell ⟨g, o + 5, none⟩ u5).setCell ⟨g, o + 5 + 1, none⟩ u6).setCell ⟨g, o + 5 + 2, none⟩ u7).setCell ⟨g, o + 5 + 3, none⟩ u8).setCell ⟨g, o + 5 + 4, none⟩ u9).setCell ⟨g, o + 5 + 5, none⟩ u10).setCell ⟨g, o + 5 + 6, none⟩ u11).setCell ⟨g, o + 5 + 7, none⟩ u12 = setW w g (o + 5) 0 [u5, u6, u7, u8, u9, u10, u11, u12] := by
  simp only [setW, Nat.add_assoc, Nat.reduceAdd, Nat.add_zero]
end Go.Proofs.YtfakgidimekikaaGreat
namespace Go.Proofs.YtfakgidimekikaaGreat
open Go.RowKit Go.Fb
set_option linter.unusedVariables false
set_option maxRecDepth 100000 in
set_option maxHeartbeats 8000000 in
theorem rstep_any (A : Option Addr) (c B n : Nat) (M : List Ndm) (s : Stp) (sf sp : Value) (w : World) (h : Nds w B A n M) (hB : B ≤ w.heap.size) (hs : Small M) (hcap : CapN M) (hst : NdIn w B (s.nd, sf, sp)) (h1 : s.nd.fr.length ≤ 1000) (h2 : s.nd.pg.length ≤ 1000) (hk : ∀ x ∈ fstN M, x.fr.length ≤ 1000 ∧ x.pg.length ≤ 1000) (hcs : ∀ A n c, sf = .slice A n c → n ≤ c) (hnc : n ≤ c) :
    Calls Tryz.prog 64 #[.slice A n c, .agg (stV s sf sp)] w (RStepOut (stepR (fstN M) s) w) := by
  obtain ⟨L, hL⟩ : ∃ L, L = fstN M := ⟨_, rfl⟩
  obtain ⟨cv, hcv⟩ : ∃ v, v = checkN L := ⟨_, rfl⟩
  obtain ⟨r, hr⟩ : ∃ r, r = stepR L s := ⟨_, rfl⟩
  rw [← hL, ← hr]
  obtain ⟨kd, y, rs⟩ := s
  have hnm := h.num
  obtain ⟨⟨Af, cf, hf1, hf2⟩, ⟨Ap, cp, hp1, hp2⟩⟩ := hst
  simp only at hf1 hp1 hf2 hp2 h1 h2
  subst hf1
  subst hp1
  have wa0 := (Fr.refl w.heap.size [] w).alloc (Nat.le_refl _) (.cells (stA kd y rs (.slice Af y.fr.length cf) (.slice Ap y.pg.length cp)) 52)
  have hst2 : NdIn w B (y, .slice Af y.fr.length cf, .slice Ap y.pg.length cp) := ⟨⟨Af, cf, rfl, hf2⟩, ⟨Ap, cp, rfl, hp2⟩⟩
  have HPR := Lib.hid hp2
  obtain ⟨nf, hnf⟩ : ∃ z, z = y.fr.length := ⟨_, rfl⟩
  obtain ⟨np, hnp⟩ : ∃ z, z = y.pg.length := ⟨_, rfl⟩
  rw [← hnf, ← hnp] at wa0 hst2 ⊢
  rw [← hnf] at hcs
  have BS := Lib.hid (Blk.new w 52 (stA kd y rs (.slice Af nf cf) (.slice Ap np cp)))
  have FA := Lib.hid wa0
  obtain ⟨wa, hwa⟩ : ∃ x, x = w.alloc (.cells (stA kd y rs (.slice Af nf cf) (.slice Ap np cp)) 52) := ⟨_, rfl⟩
  rw [← hwa] at BS FA
  have HCK := Lib.hid (by rw [hcv, hL]; exact rcheck_any A c B n M wa (h.frw FA.out hB (by simp)) (Nat.le_trans hB FA.out.size) hs hcap : Calls Tryz.prog 63 #[.slice A n c] wa fun e w' => e = .returned (.int .i64 cv) ∧ Fr wa.heap.size [] wa w')
  have HR := Lib.hid hr
  have HCV := Lib.hid hcv
  have HL := Lib.hid hL
  have H := Lib.hid h
  have HS := Lib.hid hs
  have HST := Lib.hid hst2
  have HK := Lib.hid hk
  have HNF := Lib.hid hnf
  have HNP := Lib.hid hnp
  have HWA := Lib.hid hwa
  have HNM := Lib.hid hnm
  have HCAP := Lib.hid hcap
  have HCS := Lib.hid hcs
  clear hr hcv hL h hs hst2 hk hf2 hp2 wa0 hnf hnp hwa hnm hcap hcs
  go_enter Tryz.func64, Tryz.ntmps64
  go_upto_region 1 with fail
  rw [← HWA.out]
  generalize hgS : w.heap.size = gS at BS
  go_wp2_with fail
  refine HCK.out.mono ?_
  rintro e w1 ⟨rfl, f1⟩
  have F1 := Lib.hid (FA.out.trans (f1.mono (B' := w.heap.size) (L' := []) FA.out.size (by simp)))
  have BS1 := Lib.hid (BS.out.fr f1 BS.out.lt (by simp))
  have hgl : gS < w1.heap.size := BS1.out.lt
  clear f1 HCK HWA BS FA
  by_cases hc : cv = 0
  case' neg =>
    have hr1 : r = (10, []) := by rw [HR.out]; unfold stepR; rw [if_pos (by rw [← HCV.out]; exact hc)]
    have HR1 := Lib.hid hr1
    have hcb := kd_ne hc
    clear hr1 hc
    go_wp2_with fail
    go_ret2
    rw [HR1.out]
    exact .inl ⟨by simp, rfl, F1.out⟩
  subst hc
  have k0 := BS1.out.cell 0
  simp at k0
  by_cases hk1 : kd < 1 ∨ 5 < kd
  case' pos =>
    have hr1 : r = (11, []) := by rw [HR.out]; unfold stepR; rw [if_neg (by rw [← HCV.out]; simp), if_pos hk1]
    have HR1 := Lib.hid hr1
    clear hr1
    rcases hk1 with hk1 | hk1
    · go_wp2_with fail
      go_ret2
      rw [HR1.out]
      exact .inl ⟨by simp, rfl, F1.out⟩
    · have hk2 : ¬ kd < 1 := by omega
      go_wp2_with fail
      go_ret2
      rw [HR1.out]
      exact .inl ⟨by simp, rfl, F1.out⟩
  have hka : ¬ kd < 1 := by omega
  have hkb : ¬ 5 < kd := by omega
  have hright : RightG L := checkN_zero.1 HCV.out.symm
  have HRT := Lib.hid hright
  have hLn : L.length = n := by rw [HL.out, HNM.out]; simp [fstN]
  have hn8 : n ≤ 8 := by rw [← hLn]; exact hright.len
  have hn1 : 0 < n := by
    rw [← hLn]
    have := hright.zero
    rcases Nat.eq_zero_or_pos L.length with h0 | h0
    · rw [List.eq_nil_of_length_eq_zero h0] at this; simp [idsN] at this
    · exact h0
  obtain ⟨rc, hrc⟩ : ∃ rc, rc = chgN L ⟨kd, y, rs⟩ := ⟨_, rfl⟩
  have HRC := Lib.hid hrc
  have HRR := Lib.hid (show r = endR rc by
    rw [HR.out, HRC.out]
    unfold stepR
    rw [if_neg (by rw [← HCV.out]; simp), if_neg hk1])
  clear hright hrc HR
  have ho0 := Lib.hid (rowns_empty w1)
  have fe := (Fr.refl w1.heap.size [] w1).alloc (Nat.le_refl _) (.cells #[] 50)
  have HR1 := Lib.hid ((H.out.frw (F1.out.trans (fe.mono (B' := w.heap.size) (L' := []) F1.out.size (by simp))) hB (by simp)).rd)
  have hone := Lib.hid (ndl_one H.out.inn)
  have FE := Lib.hid fe
  have hBw : B ≤ w1.heap.size := Nat.le_trans hB F1.out.size
  clear fe
  go_upto_region 5 with fail
  go_upto_region 6 with (at_builtin; refine wpList_app _ rfl (.tmp 20) (.tmp 21) nodeTy rfl w1.heap.size (.slice (some ⟨w1.heap.size, 0, none⟩) 0 0) 0 [] rfl ho0.out B _ n _ (cellsN M) rfl HR1.out hone.out (by omega) (by omega) (by simp) ?_; intro A2 c2 w2 hown2 hg2 hat2)
  rw [Nat.zero_add, List.nil_append] at hown2
  obtain ⟨gr, cap, hv, hgr, hlr⟩ := hown2.form hn1
  injection hv with hv1 _ hv3
  subst hv1
  subst hv3
  have f12 := FE.out.grown hg2 (by simp) (fun q hq => .inl (by simp [Value.ownBlock] at hq; omega))
  have HO2 := Lib.hid (ownsRow_base hown2 (Nat.zero_le _))
  have hle2 : n ≤ c2 := own_le hown2
  have F2 := Lib.hid (F1.out.trans (f12.mono (B' := w.heap.size) (L' := []) F1.out.size (by simp)))
  have BS2 := Lib.hid (BS1.out.fr f12 BS1.out.lt (by simp))
  have ND2 := Lib.hid (H.out.frw F2.out hB (by simp))
  have IN2 := Lib.hid (HST.out.frw F2.out hB (by simp))
  have RP2 := Lib.hid (HPR.out.fr F2.out hB (by simp))
  have hBg : B ≤ gr := by omega
  have hwg : w.heap.size ≤ gr := by have := F1.out.size; omega
  have hgs : gS ≠ gr := by omega
  clear f12 hown2 hg2 hat2 HR1 ho0 FE hgr BS1 k0


  have k0 := BS2.out.cell 0
  have k1 := BS2.out.cell 1
  have k2 := BS2.out.cell 2
  have k3 := BS2.out.cell 3
  have k4 := BS2.out.cell 4
  have k5 := BS2.out.cell 5
  have k6 := BS2.out.cell 6
  have k7 := BS2.out.cell 7
  have k8 := BS2.out.cell 8
  have k9 := BS2.out.cell 9
  have k10 := BS2.out.cell 10
  have k11 := BS2.out.cell 11
  have k12 := BS2.out.cell 12
  have k13 := BS2.out.cell 13
  have k14 := BS2.out.cell 14
  simp at k0 k1 k2 k3 k4 k5 k6 k7 k8 k9 k10 k11 k12 k13 k14
  obtain ⟨iv, hiv⟩ : ∃ v, v = ixN L y.id := ⟨_, rfl⟩
  have HFD := Lib.hid (by rw [hiv, HL.out]; exact rfind_any y.id A c B n M w2 ND2.out (by omega) : Calls Tryz.prog 65 #[.slice A n c, .int .i64 y.id] w2 fun e w' => e = .returned (.int .i64 iv) ∧ w2 = w')
  have hcase : (iv = -1 ∧ findN L y.id = none) ∨ ∃ (k : Nat) (x : Nd), iv = k ∧ L[k]? = some x ∧ findN L y.id = some x := by rw [hiv]; exact ixN_cases L y.id
  clear hiv
  go_upto_region 6 with fail
  go_wp2_with fail
  refine HFD.out.mono ?_
  rintro e w' ⟨rfl, rfl⟩
  clear HFD
  go_upto_region 7 with fail
  have h8 : (iv = -1 ∧ kd = 2 ∧ y.kind = 0 ∧ r = (11, [])) ∨ (iv = -1 ∧ kd ≠ 2 ∧ r = (12, [])) ∨ (∃ k : Nat, iv = k ∧ kd = 2 ∧ r = (13, [])) ∨ (iv = -1 ∧ kd = 2 ∧ y.kind ≠ 0 ∧ rc = (0, L ++ [y])) ∨ (∃ (k : Nat) (x : Nd), iv = k ∧ L[k]? = some x ∧ findN L y.id = some x ∧ (kd = 1 ∨ kd = 3 ∨ kd = 4 ∨ kd = 5)) := by
    rcases hcase with ⟨h3, hfn⟩ | ⟨k, x, h3, hLk, hfn⟩
    · by_cases h22 : kd = 2
      · by_cases hk0 : y.kind = 0
        · refine .inl ⟨h3, h22, hk0, ?_⟩
          rw [HRR.out, HRC.out]
          unfold chgN endR
          rw [hfn]
          simp [hk0, h22]
        · refine .inr (.inr (.inr (.inl ⟨h3, h22, hk0, ?_⟩)))
          rw [HRC.out]
          unfold chgN
          rw [hfn]
          simp [hk0, h22]
      · refine .inr (.inl ⟨h3, h22, ?_⟩)
        rw [HRR.out, HRC.out]
        unfold chgN endR
        rw [hfn]
        simp [h22]
    · by_cases h22 : kd = 2
      · refine .inr (.inr (.inl ⟨k, h3, h22, ?_⟩))
        rw [HRR.out, HRC.out]
        unfold chgN endR
        rw [hfn]
        simp [h22]
      · exact .inr (.inr (.inr (.inr ⟨k, x, h3, hLk, hfn, by omega⟩)))
  clear hcase
  have CP2 := Lib.hid (show ∀ M', (∀ m ∈ M', m ∈ M ∨ m.2.1 = .slice Af nf cf) → CapN M' from fun M' hm m hx A n c e => by
    rcases hm m hx with h | h
    · exact HCAP.out m h A n c e
    · rw [h] at e; exact HCS.out A n c e)
  have HSM := Lib.hid (fun (M' : List Ndm) (h : fstN M' = rc.2) => (by
    have hq := chg_sml (M := M) (M' := M') (s := ⟨kd, y, rs⟩) (K := 1000) (by rw [← HNM.out]; omega) HK.out h1 h2 (by rw [h, HRC.out, HL.out])
    exact ⟨by have := hq.1; omega, fun m hm => ⟨by have := (hq.2 m hm).1; omega, by have := (hq.2 m hm).2; omega⟩⟩ : Small M'))
  rcases h8 with ⟨rfl, h3, h4, h5⟩ | ⟨rfl, h3, h5⟩ | ⟨k, rfl, h3, h5⟩ | ⟨rfl, h3, h4, h5⟩ | ⟨k, x, rfl, hLk, hfn, (h3 | h3 | h3 | h3)⟩
  · have HR1 := Lib.hid h5
    rw [h3] at k0
    rw [h4] at k2
    clear h3 h4 h5
    go_wp2_with fail
    go_ret2
    rw [HR1.out]
    exact .inl ⟨by simp, rfl, F2.out⟩
  · have HR1 := Lib.hid h5
    have hkn := kd_ne h3
    clear h3 h5
    go_wp2_with fail
    go_ret2
    rw [HR1.out]
    exact .inl ⟨by simp, rfl, F2.out⟩
  · have HR1 := Lib.hid h5
    have hk0 : (0 : Int) ≤ (k : Int) := by omega
    rw [h3] at k0
    clear h3 h5
    go_wp2_with fail
    go_ret2
    rw [HR1.out]
    exact .inl ⟨by simp, rfl, F2.out⟩
  case' inr.inr.inr.inl =>
    have HC := Lib.hid h5
    have HK2 := Lib.hid h3
    rw [h3] at k0
    have hyk := kd_ne h4
    clear h3 h4 h5
    go_upto_region 15 with (at_builtin; refine wpList_app_lit w2 rfl (.tmp 37) (.tmp 40) nodeTy rfl 0 (.slice (some ⟨gr, 0, none⟩) n c2) n (cellsN M) rfl HO2.out 1 1 (ndA y (.slice Af nf cf) (.slice Ap np cp)) rfl rfl ndOne (by omega) (by omega) (Nat.zero_le _) ?_; intro A6 c6 w4 hown4 hg4 hat4)
    have f24 := ((Fr.refl w.heap.size [] w2).alloc F2.out.size (.cells (ndA y (.slice Af nf cf) (.slice Ap np cp)) 50)).grown hg4 (by simp; have := F2.out.size; omega) (fun q hq => .inl (by simp [Value.ownBlock] at hq; omega))
    have F4 := Lib.hid (F2.out.trans f24)
    have hf : fstN (M ++ [(y, .slice Af nf cf, .slice Ap np cp)]) = rc.2 := by rw [HC.out, HL.out]; simp [fstN]
    have ND4 := Lib.hid (show Endg rc L ⟨kd, y, rs⟩ w w4 A6 (n + 1) c6 (M ++ [(y, .slice Af nf cf, .slice Ap np cp)]) from ⟨by rw [HC.out], ⟨by rw [List.length_append, ← HNM.out]; rfl, by rw [cellsN_app]; exact Reads.of_own (by simpa [cellsN, ndL] using hown4), fun m hm => by
      rcases List.mem_append.1 hm with hm | hm
      · exact ((H.out.inn m hm).frw F4.out hB (by simp)).more (Nat.le_trans hB F4.out.size)
      · rw [List.mem_singleton.1 hm]
        exact (HST.out.frw F4.out hB (by simp)).more (Nat.le_trans hB F4.out.size)⟩, hf, CP2.out _ (fun m hm => by
      rcases List.mem_append.1 hm with hm | hm
      · exact .inl hm
      · rw [List.mem_singleton.1 hm]; exact .inr rfl), HSM.out _ hf, F4.out, own_le hown4⟩)
    obtain ⟨n6, hn6⟩ : ∃ n6, n6 = n + 1 := ⟨_, rfl⟩
    rw [← hn6] at ND4 ⊢
    obtain ⟨M6, hM6⟩ : ∃ M6, M6 = M ++ [(y, .slice Af nf cf, .slice Ap np cp)] := ⟨_, rfl⟩
    rw [← hM6] at ND4
    have f24' := ((Fr.refl w2.heap.size [gr] w2).alloc (Nat.le_refl _) (.cells (ndA y (.slice Af nf cf) (.slice Ap np cp)) 50)).grown hg4 (by simp) (fun q hq => .inr (by simp [Value.ownBlock] at hq; simp [hq]))
    have z0 := (BS2.out.fr f24' BS2.out.lt (by simpa using hgs)).cell 0
    simp at z0
    rw [HK2.out] at z0
    clear f24 f24' hown4 hg4 hat4 hf hn6 hM6 k0 k1 k2 k3 k4 k5 k6 k7 k8 k9 k10 k11 k12 k13 k14 BS2 ND2 IN2 RP2 HO2 F4
    go_upto_region 34 with fail
  case' inr.inr.inr.inr.inl =>
    obtain ⟨m, hm⟩ : ∃ m, M[k]? = some m ∧ m.1 = x := by
      rw [HL.out] at hLk
      simp only [fstN, List.getElem?_map, Option.map_eq_some_iff] at hLk
      exact hLk
    obtain ⟨hm, hmx⟩ := hm
    obtain ⟨x', tf, tp⟩ := m
    simp only at hmx
    subst hmx
    have hid : x'.id = y.id := findN_id hfn
    have hkl : k < M.length := (List.getElem?_eq_some_iff.1 hm).1
    have hkn : (k : Int) < (n : Int) := by have := HNM.out; omega
    have hk0 : (0 : Int) ≤ (k : Int) := by omega
    have hu : (idsN (fstN M)).Nodup := by rw [← HL.out]; exact HRT.out.uni
    have HU := Lib.hid hu
    have HM := Lib.hid hm
    have HID := Lib.hid hid
    have HKL := Lib.hid hkl
    obtain ⟨b1, o1, hA1, hb1, hc1⟩ := ND2.out.get hm
    subst hA1
    have p1 := hc1 1 (.int .i64 x'.kind) rfl
    rw [h3] at k0 HRC
    subst h3
    clear hLk hm hid hkl hc1 hu
    by_cases hx1 : x'.kind = 1
    case' neg =>
      have HR1 := Lib.hid (show r = (11, []) by
        rw [HRR.out, HRC.out]
        unfold chgN endR
        rw [hfn]
        simp [hx1])
      have hkb2 := kd_ne hx1
      clear hx1 hfn
      go_wp2_with fail
      go_ret2
      rw [HR1.out]
      exact .inl ⟨by simp, rfl, F2.out⟩
    rw [hx1] at p1
    obtain ⟨ok, hok⟩ : ∃ z, z = (chkL y.pg).isSome := ⟨_, rfl⟩
    have HTE := Lib.hid (by
      refine (tell_any Ap cp y.pg w2 (RP2.out.more (Nat.le_trans hB F2.out.size)) (by unfold maxLen; omega)).mono ?_
      rintro e w' ⟨t1, t2, f⟩
      refine ⟨?_, f⟩
      cases hch : chkL y.pg with
      | none =>
        rw [hch] at hok
        exact ⟨none, 0, 0, 0, 0, false, false, by rw [hok, t2 hch]; rfl⟩
      | some s =>
        rw [hch] at hok
        obtain ⟨A7, c7, D, h7, _⟩ := t1 s hch
        exact ⟨A7, _, c7, s.mx, s.em, s.u0, s.u1, by rw [hok, h7]; rfl⟩ : Calls Tryz.prog 90 #[.slice Ap y.pg.length cp] w2 fun e w' => (∃ A7 n7 c7 a b p q, e = .returned (.agg (knC (.slice A7 n7 c7) a b p q ok))) ∧ Fr w2.heap.size [] w2 w')
    rw [← HNP.out] at HTE
    have HR4 := Lib.hid (show rc = if ok = true then (0, updN L y.id (pgN y.pg)) else (9, []) by
      rw [HRC.out, hok]
      unfold chgN
      rw [hfn]
      simp [hx1])
    have HX1 := Lib.hid hx1
    clear hok hx1 hfn
    go_upto_region 18 with fail
    go_wp2_with fail
    refine HTE.out.mono ?_
    rintro e w3 ⟨⟨A7, n7, c7, qa, qb, qp, qq, rfl⟩, f3⟩
    have F3 := Lib.hid (F2.out.trans (f3.mono (B' := w.heap.size) (L' := []) F2.out.size (by simp)))
    have BS3 := Lib.hid (BS2.out.fr f3 BS2.out.lt (by simp))
    have HO3 := Lib.hid (ownsRow_fr HO2.out f3 (fun q hq => ⟨(HO2.out.lt q hq).2, by simp⟩))
    clear f3 HTE k0 k1 k2 k3 k4 k5 k6 k7 k8 k9 k10 k11 k12 k13 k14 BS2 RP2 HO2 IN2 p1
    cases ok with
    | false =>
      have HR1 := Lib.hid (show r = (9, []) by rw [HRR.out, HR4.out]; rfl)
      clear HR4
      have hkq := kn_ok (.slice A7 n7 c7) qa qb qp qq false
      go_wp2_with fail
      go_ret2
      rw [HR1.out]
      exact .inl ⟨by simp, rfl, F3.out⟩
    | true => ?_
    have HR5 := Lib.hid (show rc = (0, updN L y.id (pgN y.pg)) by rw [HR4.out]; rfl)
    have hkq := kn_ok (.slice A7 n7 c7) qa qb qp qq true
    have k4 := BS3.out.cell 4
    simp at k4
    have z3 := HO3.out.frozenAt (k * 13 + 3)
    have c3 := nd_cell HO3.out HM.out 3 _ rfl
    have F4 := Lib.hid (F3.out.trans ((Fr.refl w.heap.size [] w3).setCell (p := ⟨gr, k * 13 + 3, none⟩) (.inl hwg) (.slice Ap np cp)))
    have hf : fstN (M.set k (pgN y.pg x', tf, .slice Ap np cp)) = rc.2 := by rw [HR5.out, HL.out]; exact upd_here HU.out HM.out HID.out (pgN y.pg) tf (.slice Ap np cp)
    have hina := (H.out.inn _ (List.mem_of_getElem? HM.out)).frw F4.out hB (by simp)
    have hinb := HST.out.frw F4.out hB (by simp)
    have ND4 := Lib.hid (endg_set (c2 := c2) (L := L) (s := ⟨1, y, rs⟩) (by rw [HR5.out]) H.out hB F4.out (Reads.of_own (nd_set (m' := (pgN y.pg x', tf, .slice Ap np cp)) (u := .slice Ap np cp) HO3.out HM.out (j := 3) (by omega) rfl)) ⟨hina.fr, hinb.pg⟩ hf HCAP.out (fun A n c e => HCAP.out _ (List.mem_of_getElem? HM.out) A n c e) (HSM.out _ hf) hle2 : Endg rc L ⟨1, y, rs⟩ w (w3.setCell ⟨gr, k * 13 + 3, none⟩ (.slice Ap np cp)) (some ⟨gr, 0, none⟩) n c2 (M.set k (pgN y.pg x', tf, .slice Ap np cp)))
    obtain ⟨M6, hM6⟩ : ∃ M6, M6 = M.set k (pgN y.pg x', tf, .slice Ap np cp) := ⟨_, rfl⟩
    rw [← hM6] at ND4
    clear hina hinb hf hM6
    have z0 := (BS3.out.far (p := ⟨gr, k * 13 + 3, none⟩) hgs (.slice Ap np cp)).cell 0
    simp at z0
    go_upto_region 21 with fail
    generalize w3.setCell ⟨gr, k * 13 + 3, none⟩ (.slice Ap np cp) = w4 at *
    clear k4 c3 z3 HO3 BS3 F3 hkq
    obtain ⟨A6, hA6⟩ : ∃ A6 : Option Addr, A6 = some ⟨gr, 0, none⟩ := ⟨_, rfl⟩
    obtain ⟨c6, hc6⟩ : ∃ c6, c6 = c2 := ⟨_, rfl⟩
    obtain ⟨n6, hn6⟩ : ∃ n6, n6 = n := ⟨_, rfl⟩
    rw [← hA6, ← hc6, ← hn6] at ND4 ⊢
    clear hA6 hc6 hn6
    go_upto_region 34 with fail
  case' inr.inr.inr.inr.inr.inl =>
    obtain ⟨m, hm⟩ : ∃ m, M[k]? = some m ∧ m.1 = x := by
      rw [HL.out] at hLk
      simp only [fstN, List.getElem?_map, Option.map_eq_some_iff] at hLk
      exact hLk
    obtain ⟨hm, hmx⟩ := hm
    obtain ⟨x', tf, tp⟩ := m
    simp only at hmx
    subst hmx
    have hid : x'.id = y.id := findN_id hfn
    have hkl : k < M.length := (List.getElem?_eq_some_iff.1 hm).1
    have hkn : (k : Int) < (n : Int) := by have := HNM.out; omega
    have hk0 : (0 : Int) ≤ (k : Int) := by omega
    have hu : (idsN (fstN M)).Nodup := by rw [← HL.out]; exact HRT.out.uni
    have HU := Lib.hid hu
    have HM := Lib.hid hm
    have HID := Lib.hid hid
    have HKL := Lib.hid hkl
    obtain ⟨b1, o1, hA1, hb1, hc1⟩ := ND2.out.get hm
    subst hA1
    have p1 := hc1 1 (.int .i64 x'.kind) rfl
    rw [h3] at k0 HRC
    subst h3
    clear hLk hm hid hkl hc1 hu
    by_cases hx1 : x'.kind = 0
    case' pos =>
      have HR1 := Lib.hid (show r = (11, []) by
        rw [HRR.out, HRC.out]
        unfold chgN endR
        rw [hfn]
        simp [hx1])
      rw [hx1] at p1
      clear hx1 hfn
      go_wp2_with fail
      go_ret2
      rw [HR1.out]
      exact .inl ⟨by simp, rfl, F2.out⟩
    have hxb := kd_ne hx1
    obtain ⟨qb, hqb⟩ : ∃ q, q = decide ((childN L y.id).length ≠ 0) := ⟨_, rfl⟩
    have HCH := Lib.hid (by rw [hqb, HL.out]; exact rchildren_any y.id (some ⟨b1, o1, none⟩) c B n M w2 ND2.out HS.out : Calls Tryz.prog 93 #[.slice (some ⟨b1, o1, none⟩) n c, .int .i64 y.id] w2 fun e w' => e = .returned (.bool qb) ∧ w2 = w')
    have HR4 := Lib.hid (show rc = if qb = true then (11, []) else (0, delN L y.id) by
      rw [HRC.out, hqb]
      unfold chgN
      rw [hfn]
      simp [hx1])
    clear hqb hx1 hfn
    go_upto_region 22 with fail
    go_wp2_with fail
    refine HCH.out.mono ?_
    rintro e w' ⟨rfl, rfl⟩
    clear HCH
    cases qb with
    | true =>
      have HR1 := Lib.hid (show r = (11, []) by rw [HRR.out, HR4.out]; rfl)
      clear HR4
      go_wp2_with fail
      go_ret2
      rw [HR1.out]
      exact .inl ⟨by simp, rfl, F2.out⟩
    | false => ?_
    have HR5 := Lib.hid (show rc = (0, delN L y.id) by rw [HR4.out]; rfl)
    have hkc : (k : Int) ≤ (c : Int) := by omega
    have hk1n : (k : Int) + 1 ≤ (n : Int) := by omega
    have hnc2 : (n : Int) ≤ (c : Int) := by omega
    have hk01 : (0 : Int) ≤ (k : Int) + 1 := by omega
    have hwr : IntKind.i64.wrap ((k : Int) + 1) = (k : Int) + 1 := by rw [IntKind.wrap_i64]; omega
    have hkn2 : k < n := by omega
    have HOW := Lib.hid (show (w2.alloc (.cells #[] 50)).drew.ownsRow w2.heap.size 50 13 (.slice (some ⟨w2.heap.size, 0, none⟩) 0 0) 0 [] from rowns_empty w2)
    have fw := ((Fr.refl w2.heap.size [] w2).alloc (Nat.le_refl _) (.cells #[] 50)).drew
    have HFW := Lib.hid fw
    have FW := F2.out.trans (fw.mono (B' := w.heap.size) (L' := []) F2.out.size (by simp))
    obtain ⟨RT, RD⟩ := nds_parts (H.out.frw FW hB (by simp)) hkn2
    have RT := Lib.hid RT
    have RD := Lib.hid RD
    obtain ⟨Ad, had⟩ : ∃ Ad : Option Addr, Ad = if c = k + 1 then some ⟨b1, o1, none⟩ else some ⟨b1, o1 + (k + 1) * 13, none⟩ := ⟨_, rfl⟩
    have RD := Lib.hid (show Reads (w2.alloc (.cells #[] 50)).drew B 13 Ad (n - (k + 1)) (cellsN (M.drop (k + 1))) by
      rw [had]
      split
      · have h0 : n - (k + 1) = 0 := by omega
        have hd : M.drop (k + 1) = [] := List.drop_eq_nil_of_le (by rw [← HNM.out]; omega)
        rw [h0, hd]
        exact ⟨rfl, fun h => absurd h (by omega)⟩
      · exact RD.out)
    have hone1 := Lib.hid (ndl_one (M := M.take k) (fun m hm => H.out.inn m (List.mem_of_mem_take hm)))
    have hone2 := Lib.hid (ndl_one (M := M.drop (k + 1)) (fun m hm => H.out.inn m (List.mem_of_mem_drop hm)))
    have hB2 : B ≤ w2.heap.size := Nat.le_trans hB F2.out.size
    have BSD := Lib.hid BS2.out.drew
    clear fw FW k0 k1 k2 k3 k4 k5 k6 k7 k8 k9 k10 k11 k12 k13 k14 IN2 RP2 HR4 p1
    go_upto_region 24 with fail
    go_region_held3 (fun _ => True) (trivial) ((first
      | (refine step_app (by rfl) (.tmp 82) (.tmp 85) nodeTy (by rfl) w2.heap.size (.slice (some ⟨w2.heap.size, 0, none⟩) 0 0) 0 [] (by rfl) HOW.out B _ k _ (cellsN (M.take k)) (by rfl) RT.out hone1.out (by omega) (by omega) (by simp) ?_; intro A8 c8 w12 hown12 hg12 hat12; rw [Nat.zero_add] at hown12 hat12; simp only [Nat.zero_add]; rw [List.nil_append] at hown12; have f12 := (Fr.refl w2.heap.size [] (w2.alloc (.cells #[] 50)).drew).grown hg12 (by simp) (fun q hq => .inl (by simp [Value.ownBlock] at hq; omega)); have hs12 := f12.size; simp at hs12; have RD2 := Lib.hid (RD.out.fr f12 hB2 (by simp)))
      | (refine step_app (by rfl) (.tmp 86) (.tmp 90) nodeTy (by rfl) w2.heap.size (.slice A8 k c8) k _ (by rfl) hown12 B Ad (n - (k + 1)) _ (cellsN (M.drop (k + 1))) (by rw [had]; rfl) RD2.out hone2.out (by omega) (by omega) (by omega) ?_; intro A6 c6 w4 hown13 hg13 hat13; rw [show k + (n - (k + 1)) = n - 1 by omega] at hown13 hat13; rw [show k + (n - (k + 1)) = n - 1 by omega])))
    try rw [← had]
    have f13 := ((HFW.out.trans (f12.mono (Nat.le_refl _) (by simp))).grown hg13 (by omega) (fun q hq => .inl (hown12.lt q hq).1))
    have F4 := Lib.hid (F2.out.trans (f13.mono (B' := w.heap.size) (L' := []) F2.out.size (by simp)))
    have hf : fstN (M.take k ++ M.drop (k + 1)) = rc.2 := by rw [HR5.out, HL.out]; exact del_here HU.out HM.out HID.out
    have hmm : ∀ m ∈ M.take k ++ M.drop (k + 1), m ∈ M := fun m hm => by
      rcases List.mem_append.1 hm with h | h
      · exact List.mem_of_mem_take h
      · exact List.mem_of_mem_drop h
    have ND4 := Lib.hid (show Endg rc L ⟨3, y, rs⟩ w w4 A6 (n - 1) c6 (M.take k ++ M.drop (k + 1)) from ⟨by rw [HR5.out], ⟨by rw [List.length_append, List.length_take, List.length_drop, ← HNM.out]; omega, by rw [cellsN_app]; exact Reads.of_own hown13, fun m hm => ((H.out.inn m (hmm m hm)).frw F4.out hB (by simp)).more (Nat.le_trans hB F4.out.size)⟩, hf, fun m hm => HCAP.out m (hmm m hm), HSM.out _ hf, F4.out, own_le hown13⟩)
    have z0 := (BS2.out.fr f13 BS2.out.lt (by simp)).cell 0
    simp at z0
    obtain ⟨n6, hn6⟩ : ∃ n6, n6 = n - 1 := ⟨_, rfl⟩
    obtain ⟨M6, hM6⟩ : ∃ M6, M6 = M.take k ++ M.drop (k + 1) := ⟨_, rfl⟩
    rw [← hM6, ← hn6] at ND4
    rw [← hn6]
    clear hf hmm f13 f12 hs12 hg12 hg13 hown12 hown13 hat12 hat13 RD2 hn6 hM6 BSD BS2 HO2 ND2 F2 F4 HOW HFW RT RD had hone1 hone2
    go_upto_region 34 with fail
  case' inr.inr.inr.inr.inr.inr.inl =>
    obtain ⟨m, hm⟩ : ∃ m, M[k]? = some m ∧ m.1 = x := by
      rw [HL.out] at hLk
      simp only [fstN, List.getElem?_map, Option.map_eq_some_iff] at hLk
      exact hLk
    obtain ⟨hm, hmx⟩ := hm
    obtain ⟨x', tf, tp⟩ := m
    simp only at hmx
    subst hmx
    have hid : x'.id = y.id := findN_id hfn
    have hkl : k < M.length := (List.getElem?_eq_some_iff.1 hm).1
    have hkn : (k : Int) < (n : Int) := by have := HNM.out; omega
    have hk0 : (0 : Int) ≤ (k : Int) := by omega
    have hu : (idsN (fstN M)).Nodup := by rw [← HL.out]; exact HRT.out.uni
    have HU := Lib.hid hu
    have HM := Lib.hid hm
    have HID := Lib.hid hid
    have HKL := Lib.hid hkl
    obtain ⟨b1, o1, hA1, hb1, hc1⟩ := ND2.out.get hm
    subst hA1
    have p1 := hc1 1 (.int .i64 x'.kind) rfl
    rw [h3] at k0 HRC
    subst h3
    clear hLk hm hid hkl hc1 hu
    by_cases hx1 : x'.kind = 0
    case' pos =>
      have HR1 := Lib.hid (show r = (11, []) by
        rw [HRR.out, HRC.out]
        unfold chgN endR
        rw [hfn]
        simp [hx1])
      rw [hx1] at p1
      clear hx1 hfn
      go_wp2_with fail
      go_ret2
      rw [HR1.out]
      exact .inl ⟨by simp, rfl, F2.out⟩
    have hxb := kd_ne hx1
    have HR5 := Lib.hid (show rc = (0, updN L y.id (rtN y.par y.rt)) by
      rw [HRC.out]
      unfold chgN
      rw [hfn]
      simp [hx1])
    clear hx1 hfn
    have z4 := HO2.out.frozenAt (k * 13 + 4)
    have d4 := nd_cell HO2.out HM.out 4 _ rfl
    go_upto_region 29 with fail
    have F3 := Lib.hid (F2.out.trans ((Fr.refl w.heap.size [] w2).setCell (p := ⟨gr, k * 13 + 4, none⟩) (.inl hwg) (.int .i64 y.par)))
    have BS3 := Lib.hid (BS2.out.far (p := ⟨gr, k * 13 + 4, none⟩) hgs (.int .i64 y.par))
    have HO3 := Lib.hid (nd_set (m' := (rtN y.par x'.rt x', tf, tp)) (u := .int .i64 y.par) HO2.out HM.out (j := 4) (by omega) rfl)
    have HM3 := Lib.hid (show (M.set k (rtN y.par x'.rt x', tf, tp))[k]? = some (rtN y.par x'.rt x', tf, tp) from List.getElem?_set_self HKL.out)
    generalize w2.setCell ⟨gr, k * 13 + 4, none⟩ (.int .i64 y.par) = w3 at *
    clear k0 k1 k2 k3 k4 k5 k6 k7 k8 k9 k10 k11 k12 k13 k14 z4 d4 BS2 F2 IN2 RP2 ND2 p1 HO2
    have k6 := BS3.out.cell 6
    have k7 := BS3.out.cell 7
    have k8 := BS3.out.cell 8
    have k9 := BS3.out.cell 9
    have k10 := BS3.out.cell 10
    have k11 := BS3.out.cell 11
    have k12 := BS3.out.cell 12
    have k13 := BS3.out.cell 13
    simp at k6 k7 k8 k9 k10 k11 k12 k13
    have z5 := HO3.out.frozenAt (k * 13 + 5)
    have d5 := nd_cell HO3.out HM3.out 5 _ rfl
    have z6 := HO3.out.frozenAt (k * 13 + 6)
    have d6 := nd_cell HO3.out HM3.out 6 _ rfl
    have z7 := HO3.out.frozenAt (k * 13 + 7)
    have d7 := nd_cell HO3.out HM3.out 7 _ rfl
    have z8 := HO3.out.frozenAt (k * 13 + 8)
    have d8 := nd_cell HO3.out HM3.out 8 _ rfl
    have z9 := HO3.out.frozenAt (k * 13 + 9)
    have d9 := nd_cell HO3.out HM3.out 9 _ rfl
    have z10 := HO3.out.frozenAt (k * 13 + 10)
    have d10 := nd_cell HO3.out HM3.out 10 _ rfl
    have z11 := HO3.out.frozenAt (k * 13 + 11)
    have d11 := nd_cell HO3.out HM3.out 11 _ rfl
    have z12 := HO3.out.frozenAt (k * 13 + 12)
    have d12 := nd_cell HO3.out HM3.out 12 _ rfl
    go_upto_region 30 with fail
    rw [nest_eight]
    have F4 := Lib.hid (F3.out.trans (fr_setW (B := w.heap.size) (g := gr) (o := k * 13 + 5) (L := []) (a := w3) (.inl hwg) [.int .i64 (y.rt 0), .int .i64 (y.rt 1), .int .i64 (y.rt 2), .int .i64 (y.rt 3), .int .i64 (y.rt 4), .int .i64 (y.rt 5), .int .i64 (y.rt 6), .int .i64 (y.rt 7)] 0 w3 (Fr.refl _ _ _)))
    have hf : fstN (M.set k (rtN y.par y.rt x', tf, tp)) = rc.2 := by rw [HR5.out, HL.out]; exact upd_here HU.out HM.out HID.out (rtN y.par y.rt) tf tp
    have hina := (H.out.inn _ (List.mem_of_getElem? HM.out)).frw F4.out hB (by simp)
    have hinb := HST.out.frw F4.out hB (by simp)
    have ND4 := Lib.hid (endg_set (c2 := c2) (L := L) (s := ⟨4, y, rs⟩) (by rw [HR5.out]) H.out hB F4.out (by
      have e1 : M.set k (rtN y.par y.rt x', tf, tp) = (M.set k (rtN y.par x'.rt x', tf, tp)).set k (rtN y.par y.rt x', tf, tp) := by rw [List.set_set]
      rw [e1, cells_put (m' := (rtN y.par y.rt x', tf, tp)) HM3.out 5 [.int .i64 (y.rt 0), .int .i64 (y.rt 1), .int .i64 (y.rt 2), .int .i64 (y.rt 3), .int .i64 (y.rt 4), .int .i64 (y.rt 5), .int .i64 (y.rt 6), .int .i64 (y.rt 7)] (by simp) rfl]
      exact Reads.of_own (owns_setW (o := k * 13 + 5) [.int .i64 (y.rt 0), .int .i64 (y.rt 1), .int .i64 (y.rt 2), .int .i64 (y.rt 3), .int .i64 (y.rt 4), .int .i64 (y.rt 5), .int .i64 (y.rt 6), .int .i64 (y.rt 7)] 0 w3 _ HO3.out)) ⟨hina.fr, hina.pg⟩ hf HCAP.out (fun A n c e => HCAP.out _ (List.mem_of_getElem? HM.out) A n c e) (HSM.out _ hf) hle2 : Endg rc L ⟨4, y, rs⟩ w (setW w3 gr (k * 13 + 5) 0 [.int .i64 (y.rt 0), .int .i64 (y.rt 1), .int .i64 (y.rt 2), .int .i64 (y.rt 3), .int .i64 (y.rt 4), .int .i64 (y.rt 5), .int .i64 (y.rt 6), .int .i64 (y.rt 7)]) (some ⟨gr, 0, none⟩) n c2 (M.set k (rtN y.par y.rt x', tf, tp)))
    obtain ⟨M6, hM6⟩ : ∃ M6, M6 = M.set k (rtN y.par y.rt x', tf, tp) := ⟨_, rfl⟩
    rw [← hM6] at ND4
    clear hina hinb hf hM6
    have BS4 := Lib.hid (far_setW hgs (k * 13 + 5) [.int .i64 (y.rt 0), .int .i64 (y.rt 1), .int .i64 (y.rt 2), .int .i64 (y.rt 3), .int .i64 (y.rt 4), .int .i64 (y.rt 5), .int .i64 (y.rt 6), .int .i64 (y.rt 7)] 0 w3 BS3.out)
    generalize setW w3 gr (k * 13 + 5) 0 [.int .i64 (y.rt 0), .int .i64 (y.rt 1), .int .i64 (y.rt 2), .int .i64 (y.rt 3), .int .i64 (y.rt 4), .int .i64 (y.rt 5), .int .i64 (y.rt 6), .int .i64 (y.rt 7)] = w4 at *
    clear k6 k7 k8 k9 k10 k11 k12 k13 z5 d5 z6 d6 z7 d7 z8 d8 z9 d9 z10 d10 z11 d11 z12 d12 HO3 BS3 F3 HM3
    have z0 := BS4.out.cell 0
    simp at z0
    obtain ⟨A6, hA6⟩ : ∃ A6 : Option Addr, A6 = some ⟨gr, 0, none⟩ := ⟨_, rfl⟩
    obtain ⟨c6, hc6⟩ : ∃ c6, c6 = c2 := ⟨_, rfl⟩
    obtain ⟨n6, hn6⟩ : ∃ n6, n6 = n := ⟨_, rfl⟩
    rw [← hA6, ← hc6, ← hn6] at ND4 ⊢
    clear hA6 hc6 hn6
    go_upto_region 34 with fail
  case' inr.inr.inr.inr.inr.inr.inr =>
    obtain ⟨m, hm⟩ : ∃ m, M[k]? = some m ∧ m.1 = x := by
      rw [HL.out] at hLk
      simp only [fstN, List.getElem?_map, Option.map_eq_some_iff] at hLk
      exact hLk
    obtain ⟨hm, hmx⟩ := hm
    obtain ⟨x', tf, tp⟩ := m
    simp only at hmx
    subst hmx
    have hid : x'.id = y.id := findN_id hfn
    have hkl : k < M.length := (List.getElem?_eq_some_iff.1 hm).1
    have hkn : (k : Int) < (n : Int) := by have := HNM.out; omega
    have hk0 : (0 : Int) ≤ (k : Int) := by omega
    have hu : (idsN (fstN M)).Nodup := by rw [← HL.out]; exact HRT.out.uni
    have HU := Lib.hid hu
    have HM := Lib.hid hm
    have HID := Lib.hid hid
    have HKL := Lib.hid hkl
    obtain ⟨b1, o1, hA1, hb1, hc1⟩ := ND2.out.get hm
    subst hA1
    have p1 := hc1 1 (.int .i64 x'.kind) rfl
    rw [h3] at k0 HRC
    subst h3
    clear hLk hm hid hkl hc1 hu
    by_cases hx1 : x'.kind = 2
    case' neg =>
      have HR1 := Lib.hid (show r = (11, []) by
        rw [HRR.out, HRC.out]
        unfold chgN endR
        rw [hfn]
        simp [hx1])
      have hxb := kd_ne hx1
      clear hx1 hfn
      go_wp2_with fail
      go_ret2
      rw [HR1.out]
      exact .inl ⟨by simp, rfl, F2.out⟩
    rw [hx1] at p1
    have HR5 := Lib.hid (show rc = (0, updN L y.id (frN y.fr)) by
      rw [HRC.out]
      unfold chgN
      rw [hfn]
      simp [hx1])
    clear hx1 hfn
    have F4 := Lib.hid (F2.out.trans ((Fr.refl w.heap.size [] w2).setCell (p := ⟨gr, k * 13 + 2, none⟩) (.inl hwg) (.slice Af nf cf)))
    have hf : fstN (M.set k (frN y.fr x', .slice Af nf cf, tp)) = rc.2 := by rw [HR5.out, HL.out]; exact upd_here HU.out HM.out HID.out (frN y.fr) (.slice Af nf cf) tp
    have hina := (H.out.inn _ (List.mem_of_getElem? HM.out)).frw F4.out hB (by simp)
    have hinb := HST.out.frw F4.out hB (by simp)
    have ND4 := Lib.hid (endg_set (c2 := c2) (L := L) (s := ⟨5, y, rs⟩) (by rw [HR5.out]) H.out hB F4.out (Reads.of_own (nd_set (m' := (frN y.fr x', .slice Af nf cf, tp)) (u := .slice Af nf cf) HO2.out HM.out (j := 2) (by omega) rfl)) ⟨hinb.fr, hina.pg⟩ hf HCAP.out (fun A n c e => HCS.out A n c e) (HSM.out _ hf) hle2 : Endg rc L ⟨5, y, rs⟩ w (w2.setCell ⟨gr, k * 13 + 2, none⟩ (.slice Af nf cf)) (some ⟨gr, 0, none⟩) n c2 (M.set k (frN y.fr x', .slice Af nf cf, tp)))
    obtain ⟨M6, hM6⟩ : ∃ M6, M6 = M.set k (frN y.fr x', .slice Af nf cf, tp) := ⟨_, rfl⟩
    rw [← hM6] at ND4
    clear hina hinb hf hM6
    have z2 := HO2.out.frozenAt (k * 13 + 2)
    have c2' := nd_cell HO2.out HM.out 2 _ rfl
    go_upto_region 34 with fail
    generalize w2.setCell ⟨gr, k * 13 + 2, none⟩ (.slice Af nf cf) = w4 at *
    clear k0 k1 k2 k3 k4 k5 k6 k7 k8 k9 k10 k11 k12 k13 k14 c2' z2 HO2 BS2 F2 IN2 RP2 ND2 p1
    obtain ⟨A6, hA6⟩ : ∃ A6 : Option Addr, A6 = some ⟨gr, 0, none⟩ := ⟨_, rfl⟩
    obtain ⟨c6, hc6⟩ : ∃ c6, c6 = c2 := ⟨_, rfl⟩
    obtain ⟨n6, hn6⟩ : ∃ n6, n6 = n := ⟨_, rfl⟩
    rw [← hA6, ← hc6, ← hn6] at ND4 ⊢
    clear hA6 hc6 hn6
  all_goals
    have F4 := Lib.hid ND4.out.fr
    obtain ⟨cv2, hcv2⟩ : ∃ v, v = checkN rc.2 := ⟨_, rfl⟩
    have HCK2 := Lib.hid (by rw [hcv2, ← ND4.out.fst]; exact rcheck_any A6 c6 w4.heap.size n6 M6 w4 ND4.out.nds (Nat.le_refl _) ND4.out.sml ND4.out.cap : Calls Tryz.prog 63 #[.slice A6 n6 c6] w4 fun e w' => e = .returned (.int .i64 cv2) ∧ Fr w4.heap.size [] w4 w')
    have HRE := Lib.hid (show r = if cv2 ≠ 0 then (cv2, []) else (0, rc.2) by rw [HRR.out, hcv2]; unfold endR; rw [if_neg (by rw [ND4.out.zero]; simp)])
    have HCV2 := Lib.hid hcv2
    clear hcv2
    go_wp2_with fail
    refine HCK2.out.mono ?_
    rintro e w6 ⟨rfl, f6⟩
    have F6 := Lib.hid (F4.out.trans (f6.mono (B' := w.heap.size) (L' := []) F4.out.size (by simp)))
    have ND6 := Lib.hid ((ND4.out.nds.frw f6 (Nat.le_refl _) (by simp)).more f6.size)
    have HFS := Lib.hid ND4.out.fst
    have HCP := Lib.hid ND4.out.cap
    have hle6 := ND4.out.le
    clear f6 HCK2 ND4 F4
    by_cases hc2 : cv2 = 0
    · subst hc2
      have HR1 := Lib.hid (show r = (0, rc.2) by rw [HRE.out]; rfl)
      clear HRE
      go_wp2_with fail
      go_ret2
      rw [HR1.out]
      exact .inr ⟨rfl, A6, c6, n6, M6, rfl, ND6.out, HFS.out, HCP.out, hle6, checkN_zero.1 HCV2.out.symm, F6.out⟩
    · have HR1 := Lib.hid (show r = (cv2, []) by rw [HRE.out, if_pos hc2])
      have hcb := kd_ne hc2
      have HC2 := Lib.hid hc2
      clear HRE hc2
      go_wp2_with fail
      go_ret2
      rw [HR1.out]
      exact .inl ⟨HC2.out, rfl, F6.out⟩
end Go.Proofs.YtfakgidimekikaaGreat
namespace Go.Proofs.YtfakgidimekikaaGreat
open Go.RowKit Go.Fb
set_option linter.unusedVariables false
/-- What a plan leaves. -/
def RApOut (r : Int × Nat × List Nd) (w : World) (e : Ending) (w' : World) : Prop :=
  (r.1 ≠ 0 ∧ e = .returned (.tuple #[.slice none 0 0, .int .i64 (r.2.1 : Int), .int .i64 r.1]) ∧ Fr w.heap.size [] w w') ∨
  (r.1 = 0 ∧ ∃ A c n M, e = .returned (.tuple #[.slice A n c, .int .i64 0, .int .i64 0]) ∧ Nds w' w'.heap.size A n M ∧ CapN M ∧ fstN M = r.2.2 ∧ RightG r.2.2 ∧ Fr w.heap.size [] w w')
/-- Where the walk through a plan stands. -/
structure RGoJ (L : List Nd) (P : List Stp) (A : Option Addr) (c n : Nat) (w wr : World) (k : Nat) (Al : Option Addr) (nl cl : Nat) (Ml : List Ndm) : Prop where
  fr : Fr w.heap.size [] w wr
  nds : Nds wr wr.heap.size Al nl Ml
  rt : RightG (fstN Ml)
  go : goR 0 L P = goR k (fstN Ml) (P.drop k)
  cap : CapN Ml
  le : nl ≤ cl
theorem RGoJ.next {L : List Nd} {P : List Stp} {A : Option Addr} {c n : Nat} {w wr w' : World} {k : Nat} {Al : Option Addr} {nl cl : Nat} {Ml : List Ndm} (h : RGoJ L P A c n w wr k Al nl cl Ml) {s : Stp} (hs : P[k]? = some s) (h0 : (stepR (fstN Ml) s).1 = 0)
    {A' : Option Addr} {n' c' : Nat} {M' : List Ndm} (hn : Nds w' w'.heap.size A' n' M') (hcp : CapN M') (hle : n' ≤ c') (hf : fstN M' = (stepR (fstN Ml) s).2) (hrt : RightG (fstN M')) (hfr : Fr wr.heap.size [] wr w') : RGoJ L P A c n w w' (k + 1) A' n' c' M' := by
  refine ⟨h.fr.trans (hfr.mono (B' := w.heap.size) (L' := []) h.fr.size (by simp)), hn, hrt, ?_, hcp, hle⟩
  rw [h.go]
  have hk : k < P.length := by
    rcases Nat.lt_or_ge k P.length with h | h
    · exact h
    · rw [List.getElem?_eq_none h] at hs; cases hs
  have hd : P.drop k = s :: P.drop (k + 1) := by
    rw [List.drop_eq_getElem_cons hk]
    congr 1
    rw [List.getElem?_eq_getElem hk] at hs
    injection hs
  rw [hd]
  show (if (stepR (fstN Ml) s).1 ≠ 0 then _ else _) = _
  rw [if_neg (by rw [h0]; simp), hf]
theorem RGoJ.stop {L : List Nd} {P : List Stp} {A : Option Addr} {c n : Nat} {w wr : World} {k : Nat} {Al : Option Addr} {nl cl : Nat} {Ml : List Ndm} (h : RGoJ L P A c n w wr k Al nl cl Ml) {s : Stp} (hs : P[k]? = some s) (h0 : (stepR (fstN Ml) s).1 ≠ 0) : goR 0 L P = ((stepR (fstN Ml) s).1, k + 1, []) := by
  rw [h.go]
  have hk : k < P.length := by
    rcases Nat.lt_or_ge k P.length with h | h
    · exact h
    · rw [List.getElem?_eq_none h] at hs; cases hs
  have hd : P.drop k = s :: P.drop (k + 1) := by
    rw [List.drop_eq_getElem_cons hk]
    congr 1
    rw [List.getElem?_eq_getElem hk] at hs
    injection hs
  rw [hd]
  show (if (stepR (fstN Ml) s).1 ≠ 0 then _ else _) = _
  rw [if_pos h0]
set_option maxRecDepth 100000 in
set_option maxHeartbeats 4000000 in
theorem rapply_any (A A2 : Option Addr) (c c2 B n n2 : Nat) (M : List Ndm) (S : List Stm) (w : World) (h : Nds w B A n M) (hB : B ≤ w.heap.size) (hs : Small M) (hS : Sts w B A2 n2 S) (hss : SmallS S) (hn2 : n2 ≤ 1000000) (hcap : CapN M) (hnc : n ≤ c) (hcs : ∀ m ∈ S, ∀ A n c, m.2.1 = .slice A n c → n ≤ c) :
    Calls Tryz.prog 32 #[.slice A n c, .slice A2 n2 c2] w (RApOut (applyR (fstN M) (fstS S)) w) := by
  obtain ⟨L, hL⟩ : ∃ L, L = fstN M := ⟨_, rfl⟩
  obtain ⟨P, hP⟩ : ∃ P, P = fstS S := ⟨_, rfl⟩
  obtain ⟨cv, hcv⟩ : ∃ v, v = checkN L := ⟨_, rfl⟩
  obtain ⟨r, hr⟩ : ∃ r, r = applyR L P := ⟨_, rfl⟩
  rw [← hL, ← hP, ← hr]
  have hpl : P.length = n2 := by rw [hP, hS.num]; simp [fstS]
  have HCK := Lib.hid (by rw [hcv, hL]; exact rcheck_any A c B n M w h hB hs hcap : Calls Tryz.prog 63 #[.slice A n c] w fun e w' => e = .returned (.int .i64 cv) ∧ Fr w.heap.size [] w w')
  have HR := Lib.hid hr
  have HCV := Lib.hid hcv
  have HL := Lib.hid hL
  have HP := Lib.hid hP
  have HPL := Lib.hid hpl
  have H := Lib.hid h
  have HSS := Lib.hid hss
  have HST := Lib.hid hS
  have HNU := Lib.hid hS.num
  have HCP := Lib.hid hcap
  have HCS := Lib.hid hcs
  clear hr hcv hL hP h hs hS hss hpl hcap hcs
  go_enter Tryz.func32, Tryz.ntmps32
  go_wp2_with fail
  refine HCK.out.mono ?_
  rintro e w1 ⟨rfl, f1⟩
  have F1 := Lib.hid f1
  clear f1 HCK
  by_cases hc : cv = 0
  case' neg =>
    have HR1 := Lib.hid (show r = (10, 0, []) by rw [HR.out]; unfold applyR; rw [if_pos (by rw [← HCV.out]; exact hc)])
    have hcb := kd_ne hc
    clear hc
    go_wp2_with fail
    go_ret3
    rw [HR1.out]
    exact .inl ⟨by simp, rfl, F1.out⟩
  subst hc
  by_cases hk1 : n2 < 1 ∨ 6 < n2
  case' pos =>
    have HR1 := Lib.hid (show r = (11, 0, []) by rw [HR.out]; unfold applyR; rw [if_neg (by rw [← HCV.out]; simp), if_pos (by rw [HPL.out]; exact hk1)])
    rcases hk1 with hk1 | hk1
    · obtain rfl : n2 = 0 := by omega
      go_wp2_with fail
      go_ret3
      rw [HR1.out]
      exact .inl ⟨by simp, rfl, F1.out⟩
    · have hk2 : ¬ ((n2 : Int) < 1) := by omega
      have hk3 : (6 : Int) < (n2 : Int) := by omega
      go_wp2_with fail
      go_ret3
      rw [HR1.out]
      exact .inl ⟨by simp, rfl, F1.out⟩
  have hka : ¬ ((n2 : Int) < 1) := by omega
  have hkb : ¬ ((6 : Int) < (n2 : Int)) := by omega
  have hn2p : 0 < n2 := by omega
  have hright : RightG L := checkN_zero.1 HCV.out.symm
  have J0 := Lib.hid (show RGoJ L P A c n w w1 0 A n c M from ⟨F1.out, ((H.out.frw F1.out hB (by simp)).more (Nat.le_trans hB F1.out.size)), by rw [← HL.out]; exact hright, by rw [← HL.out]; rfl, HCP.out, hnc⟩)
  have HRR := Lib.hid (show r = goR 0 L P by rw [HR.out]; unfold applyR; rw [if_neg (by rw [← HCV.out]; simp), if_neg (by rw [HPL.out]; exact hk1)])
  clear hright HR HCV hk1
  go_wp2_with fail
  go_loopg [0, 7] n2 (fun g s0 s7 wr => ∃ (k : Nat) (Al : Option Addr) (nl cl : Nat) (Ml : List Ndm), k ≤ n2 ∧ g = n2 - k ∧ s7 = .int .i64 k ∧ s0 = .slice Al nl cl ∧ RowKit.Hid (RGoJ L P A c n w wr k Al nl cl Ml))
  case atStart => exact ⟨0, A, n, c, M, Nat.zero_le _, rfl, rfl, rfl, J0⟩
  case round =>
    clear J0 F1
    obtain ⟨k, Al, nl, cl, Ml, hk, rfl, rfl, rfl, J⟩ := hrel
    by_cases hkn : k < n2
    · have hki : (k : Int) < (n2 : Int) := by omega
      have hk0 : (0 : Int) ≤ (k : Int) := by omega
      obtain ⟨m, hx⟩ : ∃ m, S[k]? = some m := ⟨_, List.getElem?_eq_getElem (by rw [← HNU.out]; exact hkn)⟩
      have HSW := HST.out.frw J.out.fr hB (by simp)
      obtain ⟨b1, o1, rfl, hb1, hc1⟩ := HSW.get hx
      have hin := HSW.inn m (List.mem_of_getElem? hx)
      have hsm := HSS.out m (List.mem_of_getElem? hx)
      have HPK := Lib.hid (show P[k]? = some m.1 by rw [HP.out]; simp [fstS, hx])
      obtain ⟨⟨kd, y, rs⟩, sf, sp⟩ := m
      simp only at hin hsm HPK
      obtain ⟨⟨Af, cf, hf1, hf2⟩, ⟨Ap, cp, hp1, hp2⟩⟩ := hin
      simp only at hf1 hp1 hf2 hp2
      subst hf1
      subst hp1
      have hin2 : NdIn wr B (y, .slice Af y.fr.length cf, .slice Ap y.pg.length cp) := ⟨⟨Af, cf, rfl, hf2⟩, ⟨Ap, cp, rfl, hp2⟩⟩
      clear hf2 hp2
      obtain ⟨nf, hnf⟩ : ∃ z, z = y.fr.length := ⟨_, rfl⟩
      obtain ⟨np, hnp⟩ : ∃ z, z = y.pg.length := ⟨_, rfl⟩
      rw [← hnf, ← hnp] at hin2 hc1
      have p0 := hc1 0 (.int .i64 kd) rfl
      have p1 := hc1 1 (.int .i64 y.id) rfl
      have p2 := hc1 2 (.int .i64 y.kind) rfl
      have p3 := hc1 3 (.slice Af nf cf) rfl
      have p4 := hc1 4 (.slice Ap np cp) rfl
      have p5 := hc1 5 (.int .i64 y.par) rfl
      have p6 := hc1 6 (.int .i64 (y.rt 0)) rfl
      have p7 := hc1 7 (.int .i64 (y.rt 1)) rfl
      have p8 := hc1 8 (.int .i64 (y.rt 2)) rfl
      have p9 := hc1 9 (.int .i64 (y.rt 3)) rfl
      have p10 := hc1 10 (.int .i64 (y.rt 4)) rfl
      have p11 := hc1 11 (.int .i64 (y.rt 5)) rfl
      have p12 := hc1 12 (.int .i64 (y.rt 6)) rfl
      have p13 := hc1 13 (.int .i64 (y.rt 7)) rfl
      have p14 := hc1 14 (.bool rs) rfl
      simp only [Nat.add_zero] at p0
      have HIN := Lib.hid hin2
      have HSM := Lib.hid hsm
      clear hc1 HSW hsm hin2
      have hcs1 := HCS.out _ (List.mem_of_getElem? hx)
      simp only at hcs1
      rw [← hnf] at hcs1
      obtain ⟨sr, hsr⟩ : ∃ sr, sr = stepR (fstN Ml) ⟨kd, y, rs⟩ := ⟨_, rfl⟩
      have HPS := Lib.hid (by rw [hsr]; exact rstep_any Al cl wr.heap.size nl Ml ⟨kd, y, rs⟩ (.slice Af nf cf) (.slice Ap np cp) wr J.out.nds (Nat.le_refl _) (small_right J.out.rt) J.out.cap (HIN.out.more (Nat.le_trans hB J.out.fr.size)) HSM.out.1 HSM.out.2 (right_small J.out.rt) hcs1 J.out.le : Calls Tryz.prog 64 #[.slice Al nl cl, .agg (stA kd y rs (.slice Af nf cf) (.slice Ap np cp))] wr (RStepOut sr wr))
      have HSR := Lib.hid hsr
      clear hsr hb1 hx hnf hnp hcs1
      go_wp2_with fail
      refine HPS.out.mono ?_
      rintro e w2 (⟨e1, rfl, f2⟩ | ⟨e1, A', c', n', M', rfl, hn', hf', hcp', hle', hrt', f2⟩)
      · have F2 := Lib.hid (J.out.fr.trans (f2.mono (B' := w.heap.size) (L' := []) J.out.fr.size (by simp)))
        have HR1 := Lib.hid (show r = (sr.1, k + 1, []) by rw [HRR.out, J.out.stop HPK.out (by rw [← HSR.out]; exact e1), ← HSR.out])
        have E1 := Lib.hid e1
        have hcb := kd_ne e1
        have hwk : IntKind.i64.wrap ((k : Int) + 1) = (k : Int) + 1 := by rw [IntKind.wrap_i64]; omega
        clear f2 e1 HPS J
        go_wp2_with fail
        go_ret3
        rw [HR1.out]
        exact .inl ⟨E1.out, by simp, F2.out⟩
      · have J2 := Lib.hid (J.out.next HPK.out (by rw [← HSR.out]; exact e1) hn' hcp' hle' (by rw [hf', HSR.out]) (by rw [hf']; exact hrt') f2)
        clear hn' hf' f2 HPS J e1 hcp' hle' hrt'
        go_wp2_with fail
        go_roundg (n2 - (k + 1))
        case measure => omega
        case rel => exact ⟨k + 1, A', n', c', M', by omega, rfl, by go_num, rfl, J2⟩
    · obtain rfl : k = n2 := by omega
      have HR1 := Lib.hid (show r = (0, 0, fstN Ml) by
        rw [HRR.out, J.out.go, List.drop_eq_nil_of_le (by rw [HPL.out]; exact Nat.le_refl _)]
        rfl)
      go_wp2_with fail
      go_ret3
      rw [HR1.out]
      exact .inr ⟨rfl, Al, cl, nl, Ml, rfl, J.out.nds, J.out.cap, rfl, J.out.rt, J.out.fr⟩
end Go.Proofs.YtfakgidimekikaaGreat
