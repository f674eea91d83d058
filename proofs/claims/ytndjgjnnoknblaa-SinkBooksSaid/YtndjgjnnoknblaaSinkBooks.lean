/- The law SinkBooks: the walk. -/
import Derived.Test.YtndjgjnnoknblaaBookC
import Derived.Test.YtndjgjnnoknblaaLinesArg
import Derived.Deep.RegionHeld3
namespace Go.Proofs.Ytndjgjnnoknblaa
open Go.RowKit Go.Fb
theorem neq_int_self (a : Int) : (a != a) = false := by simp
set_option maxRecDepth 100000 in
set_option maxHeartbeats 8000000 in
theorem walk_SinkBooks (A : Option Addr) (n c : Nat) (K : Nat → Int × List (Nat → Int)) (hnc : n ≤ c) (hc : c ≤ maxLen) (w : World) (hK : Comm w w.heap.size A n K) (f : Nat → Int) :
    Calls Try.prog 3 #[.slice A n c, .agg #[.int .i64 (f 0), .int .i64 (f 1), .int .i64 (f 2), .int .i64 (f 3)]] w fun e w' => e = .returned (.bool true) ∧ Below w.heap.size w w' := by
  have hm := Nat.le_trans hnc hc
  unfold maxLen at hm
  have HK := Lib.hid hK
  obtain ⟨a0, ha0⟩ : ∃ a, a = f 0 := ⟨_, rfl⟩
  obtain ⟨a1, ha1⟩ : ∃ a, a = f 1 := ⟨_, rfl⟩
  obtain ⟨a2, ha2⟩ : ∃ a, a = f 2 := ⟨_, rfl⟩
  obtain ⟨a3, ha3⟩ : ∃ a, a = f 3 := ⟨_, rfl⟩
  rw [← ha0, ← ha1, ← ha2, ← ha3]
  clear hK hnc hc ha0 ha1 ha2 ha3
  go_enter Try.func3, Try.ntmps3
  go_wp2_with fail
  have hb := Blk.new w 23 #[.int .i64 a0, .int .i64 a1, .int .i64 a2, .int .i64 a3]
  have b0 := (Below.refl _ w).alloc (Nat.le_refl _) (.cells #[.int .i64 a0, .int .i64 a1, .int .i64 a2, .int .i64 a3] 23)
  generalize w.alloc _ = w1 at *
  refine (awake21 _).mono ?_
  rintro e w2 ⟨rfl, b1⟩
  have BA := Lib.hid (hb.below b1 hb.lt)
  have BL2 := Lib.hid (b0.trans (b1.mono b0.size))
  clear hb b0 b1
  by_cases h60 : n ≤ 60
  case neg =>
    have hd60 : decide (60 < (n : Int)) = true := decide_eq_true (by omega)
    go_wp2_with fail
    go_ret
    exact ⟨rfl, BL2.out⟩
  have hd60 : decide (60 < (n : Int)) = false := decide_eq_false (by omega)
  have HN2 := Lib.hid (bnew_any w2)
  go_wp2_with fail
  refine HN2.out.mono ?_
  rintro e w3 ⟨gb, gm, rfl, B3, f3⟩
  have M0 := Lib.hid (⟨B3, World.ownsRow_nil _ _ _ _, World.ownsRow_nil _ _ _ _, (fun b h => by simp [Value.ownBlock] at h), (fun b h => by simp [Value.ownBlock] at h), f3⟩ : SB gb gm [] [] [] [] 0 (.slice none 0 0) (.slice none 0 0) (.slice none 0 0) w2 w3)
  clear B3 f3 HN2
  go_wp2_with fail
  go_loopg [6, 7, 8, 10, 11, 13, 14, 23] n (fun g s6 s7 s8 s10 s11 s13 s14 s23 wr => ∃ (i nl nS : Nat) (l S : List (Nat → Int)) (E : List (Int × Nat)) (ep : Int) (V : Value) (AA AS : Option Addr) (cA cS : Nat), i ≤ n ∧ g = n - i ∧ s23 = .int .i64 i ∧ nl ≤ i * 20 ∧ nS ≤ nl ∧ s6 = .slice AA nl cA ∧ s7 = .slice AS nS cS ∧ s8 = .int .i64 ep ∧ (s10 = undef ∨ ∃ a, s10 = .pointer a) ∧ (s13 = undef ∨ ∃ a, s13 = .pointer a) ∧ RowKit.Hid (nl = l.length) ∧ RowKit.Hid (nS = S.length) ∧ RowKit.Hid (SInv l E ep a3 S) ∧ RowKit.Hid (SB gb gm l l S E ep V (.slice AA nl cA) (.slice AS nS cS) w2 wr))
  case atStart => exact ⟨0, 0, 0, [], [], [], 0, .slice none 0 0, none, none, 0, 0, Nat.zero_le _, rfl, rfl, Nat.le_refl _, Nat.le_refl _, rfl, rfl, rfl, .inl rfl, .inl rfl, Lib.hid rfl, Lib.hid rfl, Lib.hid (SInv.start _), M0⟩
  case round =>
    clear M0
    obtain ⟨i, nl, nS, l, S, E, ep, V, AA, AS, cA, cS, hi, rfl, rfl, hnl, hnS, rfl, rfl, rfl, hs10, hs13, HL, HS, HI, M⟩ := hrel
    by_cases hin : i < n
    ·
      obtain ⟨b, off, Ac, cc, hA, hbb, c0, c1, hle, hcc, hrd⟩ := (HK.out.below (BL2.out.trans (M.out.fr.below.mono BL2.out.size))) i hin
      subst hA
      obtain ⟨e, he⟩ : ∃ e, e = (K i).1 := ⟨_, rfl⟩
      obtain ⟨ls, hls⟩ : ∃ ls, ls = (K i).2 := ⟨_, rfl⟩
      rw [← he] at c0
      rw [← hls] at c1 hle hrd
      obtain ⟨k, hk⟩ : ∃ k, k = ls.length := ⟨_, rfl⟩
      have HKL := Lib.hid hk
      rw [← hk] at c1 hle hrd
      have hii : (i : Int) < (n : Int) := by omega
      have hccm := hcc
      unfold maxLen at hccm
      have BLr := Lib.hid (BL2.out.trans (M.out.fr.below.mono BL2.out.size))
      have hwr := BLr.out.size
      clear he hls hk
      by_cases hk20 : k ≤ 20
      case neg =>
        have hd20 : decide (20 < (k : Int)) = true := decide_eq_true (by omega)
        go_wp2_with fail
        go_ret
        exact ⟨rfl, BLr.out.alloc BLr.out.size _⟩
      have hd20 : decide (20 < (k : Int)) = false := decide_eq_false (by omega)
      go_upto_region 13 with fail
      have fa := (Fr.refl wr.heap.size [] wr).alloc (Nat.le_refl _) (.cells #[.int .i64 e, .slice Ac k cc] 29)
      have BC := Lib.hid (Blk.new wr 29 #[.int .i64 e, .slice Ac k cc])
      have MA := Lib.hid (M.out.keep fa)
      have HRA := Lib.hid (hrd.fr fa hwr (by simp))
      have BLa := Lib.hid (BLr.out.trans (fa.below.mono hwr))
      clear M fa c0 c1 hrd BLr hwr
      generalize wr.alloc (.cells #[.int .i64 e, .slice Ac k cc] 29) = wa at *
      generalize wr.heap.size = gc at *
      have x0 := BC.out.cell 0
      have x1 := BC.out.cell 1
      simp at x0 x1
      go_wp2_with fail
      go_loopg [11, 13, 34] k (fun g s11 s13 s34 wx => ∃ j : Nat, j ≤ k ∧ g = k - j ∧ s34 = .int .i64 j ∧ s11 = .bool ((ls.take j).all lineB) ∧ (s13 = undef ∨ ∃ a, s13 = .pointer a) ∧ RowKit.Hid (Fr wa.heap.size [] wa wx))
      case atStart => exact ⟨0, Nat.zero_le _, rfl, rfl, rfl, hs13, Lib.hid (Fr.refl _ _ _)⟩
      case round =>
        obtain ⟨j, hj, rfl, rfl, rfl, hs13', FX⟩ := hrel
        by_cases hjk : j < k
        · have hji : (j : Int) < (k : Int) := by omega
          obtain ⟨x, hx⟩ : ∃ x, ls[j]? = some x := ⟨_, List.getElem?_eq_getElem (by rw [← HKL.out]; exact hjk)⟩
          have hrx := HRA.out.fr FX.out BLa.out.size (by simp)
          rw [HKL.out] at hrx
          obtain ⟨b2, off2, hA2, hb2, hcx⟩ := reads_ln hrx hx
          subst hA2
          have p0 := hcx 0 (by omega)
          have p1 := hcx 1 (by omega)
          have p2 := hcx 2 (by omega)
          have p3 := hcx 3 (by omega)
          have p4 := hcx 4 (by omega)
          simp only [Nat.add_zero, ← Nat.add_assoc] at p0 p1 p2 p3 p4
          have HTK := Lib.hid (allN_take_succ (f := lineB) hx)
          clear hcx hx hrx
          cases hbv : (ls.take j).all lineB with
          | false =>
            rw [hbv] at HTK
            clear hbv
            go_wp2_with fail
            go_roundg (k - (j + 1))
            case measure => omega
            case rel => exact ⟨j + 1, by omega, rfl, by go_num, by rw [HTK.out]; rfl, .inr ⟨_, rfl⟩, Lib.hid (FX.out.alloc FX.out.size _)⟩
          | true =>
            rw [hbv] at HTK
            have HRT := Lib.hid (lnright_any x)
            clear hbv
            go_wp2_with fail
            refine (HRT.out _).mono ?_
            rintro o wy ⟨rfl, fy⟩
            have FY := Lib.hid ((FX.out.alloc FX.out.size (.cells (lnA x) 33)).trans (fy.mono (B' := wa.heap.size) (L' := []) (by have := FX.out.size; simp; omega) (by simp)))
            clear fy
            go_wp2_with fail
            go_roundg (k - (j + 1))
            case measure => omega
            case rel => exact ⟨j + 1, by omega, rfl, by go_num, by rw [HTK.out]; rfl, .inr ⟨_, rfl⟩, FY⟩
        · obtain rfl : k = j := by omega
          have htk : ls.take k = ls := List.take_of_length_le (by rw [HKL.out]; exact Nat.le_refl _)
          rw [htk]
          have MX := Lib.hid (MA.out.keep FX.out)
          have BCX := Lib.hid (BC.out.fr FX.out BC.out.lt (by simp))
          have HRX := Lib.hid (HRA.out.fr FX.out BLa.out.size (by simp))
          have BAX := Lib.hid (BA.out.fr MX.out.fr BA.out.lt (by simp))
          have hwx := (BLa.out.trans (FX.out.below.mono BLa.out.size)).size
          clear MA BC HRA BLa FX x0 x1 htk
          have x0 := BCX.out.cell 0
          have x1 := BCX.out.cell 1
          simp at x0 x1
          by_cases hep : e ≤ ep
          · have hdp : decide (e ≤ ep) = true := decide_eq_true hep
            have HCM := Lib.hid (bcommit_there wr MX.out.bk e (.slice Ac k cc) hep)
            go_wp2_with fail
            refine HCM.out.mono ?_
            rintro o wq ⟨rfl, rfl⟩
            go_upto_region 31 with fail
            have hl6 : l.length ≤ 1000000 := by rw [← HL.out]; omega
            have HLN := blines_any wr MX.out.bk hl6
            rw [← HL.out] at HLN
            have HLN := Lib.hid HLN
            have hee := neq_int_self ep
            have hnn := neq_int_self ((nl : Nat) : Int)
            go_wp2_with fail
            refine HLN.out.mono ?_
            rintro o wy ⟨Aq, cq, rfl, hownq, fq⟩
            have MY := Lib.hid (MX.out.keep fq)
            have HLY := Lib.hid (lines_yes (c1 := cq) (c2 := cA) HL.out (Reads.of_own hownq) (by have h := MY.out.all_; rw [← HL.out] at h; exact Reads.of_own h) (by omega))
            clear hownq fq HLN
            go_wp2_with fail
            refine HLY.out.mono ?_
            rintro o wz ⟨rfl, fz⟩
            have MZ := Lib.hid (MY.out.keep fz)
            have HEP := Lib.hid (bepoch_any wz MZ.out.bk)
            have HLE := blen_any wz MZ.out.bk
            rw [← HL.out] at HLE
            have HLE := Lib.hid HLE
            clear fz HLY MY
            go_wp2_with fail
            refine HEP.out.mono ?_
            rintro o wq ⟨rfl, rfl⟩
            go_wp2_with fail
            refine HLE.out.mono ?_
            rintro o wq ⟨rfl, rfl⟩
            go_wp2_with fail
            go_roundg (n - (i + 1))
            case measure => omega
            case rel => exact ⟨i + 1, nl, nS, l, S, E, ep, V, AA, AS, cA, cS, by omega, rfl, by go_num, by omega, hnS, rfl, rfl, rfl, .inr ⟨_, rfl⟩, hs13', HL, HS, HI, MZ⟩
          have hdp : decide (e ≤ ep) = false := decide_eq_false hep
          have hlt : ep < e := by omega
          cases hal : ls.all lineB with
          | false =>
            have HCM := (bcommit_arg wr MX.out.bk e Ac cc w.heap.size ls (by rw [← HKL.out]; exact HRX.out) hwx (by rw [← HKL.out]; omega) hlt hal)
            rw [← HKL.out] at HCM
            have HCM := Lib.hid HCM
            clear hal
            go_wp2_with fail
            refine HCM.out.mono ?_
            rintro o wc ⟨rfl, fc⟩
            have MC := Lib.hid (MX.out.keep fc)
            clear fc HCM MX
            go_upto_region 31 with fail
            have hl6 : l.length ≤ 1000000 := by rw [← HL.out]; omega
            have HLN := blines_any wc MC.out.bk hl6
            rw [← HL.out] at HLN
            have HLN := Lib.hid HLN
            have hee := neq_int_self ep
            have hnn := neq_int_self ((nl : Nat) : Int)
            go_wp2_with fail
            refine HLN.out.mono ?_
            rintro o wy ⟨Aq, cq, rfl, hownq, fq⟩
            have MY := Lib.hid (MC.out.keep fq)
            have HLY := Lib.hid (lines_yes (c1 := cq) (c2 := cA) HL.out (Reads.of_own hownq) (by have h := MY.out.all_; rw [← HL.out] at h; exact Reads.of_own h) (by omega))
            clear hownq fq HLN
            go_wp2_with fail
            refine HLY.out.mono ?_
            rintro o wz ⟨rfl, fz⟩
            have MZ := Lib.hid (MY.out.keep fz)
            have HEP := Lib.hid (bepoch_any wz MZ.out.bk)
            have HLE := blen_any wz MZ.out.bk
            rw [← HL.out] at HLE
            have HLE := Lib.hid HLE
            clear fz HLY MY
            go_wp2_with fail
            refine HEP.out.mono ?_
            rintro o wq ⟨rfl, rfl⟩
            go_wp2_with fail
            refine HLE.out.mono ?_
            rintro o wq ⟨rfl, rfl⟩
            go_wp2_with fail
            go_roundg (n - (i + 1))
            case measure => omega
            case rel => exact ⟨i + 1, nl, nS, l, S, E, ep, V, AA, AS, cA, cS, by omega, rfl, by go_num, by omega, hnS, rfl, rfl, rfl, .inr ⟨_, rfl⟩, hs13', HL, HS, HI, MZ⟩
          | true =>
            have HCM := (bcommit_ok wr MX.out.bk MX.out.fr.size e Ac cc w.heap.size ls (by rw [← HKL.out]; exact HRX.out) hwx (by rw [← HKL.out, ← HL.out]; omega) hlt hal (fun y hy => by have := (HI.out.keys y hy).1; omega))
            rw [← HKL.out] at HCM
            have HCM := Lib.hid HCM
            clear hal
            go_wp2_with fail
            refine HCM.out.mono ?_
            rintro o wc ⟨V', rfl, bkc, fc, hat⟩
            have MC := Lib.hid (MX.out.commit bkc fc hat)
            obtain ⟨t1, t2, t3⟩ := MX.out.bk.ne
            have hgc : gc ∉ gb :: gm :: V.ownBlock.toList := by
              intro hm
              simp only [List.mem_cons, Option.mem_toList] at hm
              rcases hm with h | h | h
              · exact BCX.out.ne_ MX.out.bk.st (by decide) h
              · exact MX.out.bk.mp.ne BCX.out h.symm
              · exact BCX.out.ne_own MX.out.bk.own (by decide) h.symm
            have BCC := Lib.hid (BCX.out.fr fc BCX.out.lt hgc)
            have BLx := Lib.hid (BL2.out.trans (MX.out.fr.below.mono BL2.out.size))
            have FBC : Below w.heap.size wr wc := (fc.mono (B' := w.heap.size) (L' := []) hwx (by
              intro q hq hq2
              have h1 := MX.out.bk.low
              have h2 := BL2.out.size
              simp only [List.mem_cons, Option.mem_toList] at hq
              rcases hq with h | h | h
              · omega
              · omega
              · have := (MX.out.bk.own.lt q h).1; omega)).below
            have HRC := Lib.hid (HRX.out.below FBC)
            have ownA := MC.out.all_
            rw [← HL.out] at ownA
            have hwc := MC.out.fr.size
            have hw2 := BL2.out.size
            have hrc := HRC.out
            have y0 := BCC.out.cell 0
            have y1 := BCC.out.cell 1
            simp at y0 y1
            have HLN2 := Lib.hid (show nl + k = (l ++ ls).length by rw [List.length_append, ← HL.out, ← HKL.out])
            have HI2 := HI.out.step (m := ls) (e := e) hlt
            clear x0 x1 bkc fc hat hgc FBC BLx HCM MX BCX HRX BAX t1 t2 t3
            by_cases hask : a3 < e
            · rw [if_pos hask] at HI2
              have HIS := Lib.hid HI2
              have HSN2 := Lib.hid (show nS + k = (S ++ ls).length by rw [List.length_append, ← HS.out, ← HKL.out])
              clear HI2
              have had : decide (a3 < e) = true := decide_eq_true hask
              go_upto_region 31 with (first | (at_builtin; refine wpList_app _ rfl (.tmp 64) (.tmp 66) lineTy rfl w2.heap.size (.slice AA nl cA) nl _ rfl ownA w.heap.size Ac k cc _ rfl hrc lnC_one (by omega) (by omega) hwc ?_; intro A2 c2 wd hown2 hg2 hat2; have MD := Lib.hid (MC.out.appA hown2 (by rw [← HL.out, ← HKL.out]) hg2 hat2); have BCD := Lib.hid (BCC.out.grown hg2 (BCC.out.ne_own MC.out.all_ (by decide))); have z0 : wd.cell? ⟨gc, 0, none⟩ = some (.int .i64 e) := (BCD.out.cell 0).trans (by simp); have z1 : wd.cell? ⟨gc, 1, none⟩ = some (.slice Ac k cc) := (BCD.out.cell 1).trans (by simp); have z3 : wd.cell? ⟨w.heap.size, 3, none⟩ = some (.int .i64 a3) := ((BA.out.fr MD.out.fr BA.out.lt (by simp)).cell 3).trans (by simp); have ownS := MD.out.since; rw [← HS.out] at ownS; have hwd := MD.out.fr.size; have hrd := hrc.fr ((Fr.refl w.heap.size [] wc).grown hg2 (by omega) (fun q hq => .inl (by have := (ownA.lt q hq).1; omega))) (Nat.le_refl _) (by simp)) | (at_builtin; refine wpList_app _ rfl (.tmp 73) (.tmp 75) lineTy rfl w2.heap.size (.slice AS nS cS) nS _ rfl ownS w.heap.size Ac k cc _ rfl hrd lnC_one (by omega) (by omega) hwd ?_; intro A3 c3 we hown3 hg3 hat3; have ME := Lib.hid (MD.out.appS hown3 (by rw [← HS.out, ← HKL.out]) hg3 hat3)))
              have hl6 : (l ++ ls).length ≤ 1000000 := by rw [← HLN2.out]; omega
              have HLN := blines_any we ME.out.bk hl6
              rw [← HLN2.out] at HLN
              have HLN := Lib.hid HLN
              have hee := neq_int_self e
              have hnn := neq_int_self (((nl + k) : Nat) : Int)
              go_wp2_with fail
              refine HLN.out.mono ?_
              rintro o wy ⟨Aq, cq, rfl, hownq, fq⟩
              have MY := Lib.hid (ME.out.keep fq)
              have HLY := Lib.hid (lines_yes (c1 := cq) (c2 := c2) HLN2.out (Reads.of_own hownq) (by have h := MY.out.all_; rw [← HLN2.out] at h; exact Reads.of_own h) (by omega))
              clear hownq fq HLN
              go_wp2_with fail
              refine HLY.out.mono ?_
              rintro o wz ⟨rfl, fz⟩
              have MZ := Lib.hid (MY.out.keep fz)
              have HEP := Lib.hid (bepoch_any wz MZ.out.bk)
              have HLE := blen_any wz MZ.out.bk
              rw [← HLN2.out] at HLE
              have HLE := Lib.hid HLE
              clear fz HLY MY
              go_wp2_with fail
              refine HEP.out.mono ?_
              rintro o wq ⟨rfl, rfl⟩
              go_wp2_with fail
              refine HLE.out.mono ?_
              rintro o wq ⟨rfl, rfl⟩
              go_wp2_with fail
              go_roundg (n - (i + 1))
              case measure => omega
              case rel => exact ⟨i + 1, (nl + k), (nS + k), (l ++ ls), (S ++ ls), (E ++ [(e, l.length)]), e, V', A2, A3, c2, c3, by omega, rfl, by go_num, by omega, by omega, rfl, rfl, rfl, .inr ⟨_, rfl⟩, hs13', HLN2, HSN2, HIS, MZ⟩
            · rw [if_neg hask] at HI2
              have HIS := Lib.hid HI2
              clear HI2
              have had : decide (a3 < e) = false := decide_eq_false hask
              go_upto_region 31 with (at_builtin; refine wpList_app _ rfl (.tmp 64) (.tmp 66) lineTy rfl w2.heap.size (.slice AA nl cA) nl _ rfl ownA w.heap.size Ac k cc _ rfl hrc lnC_one (by omega) (by omega) hwc ?_; intro A2 c2 wd hown2 hg2 hat2; have MD := Lib.hid (MC.out.appA hown2 (by rw [← HL.out, ← HKL.out]) hg2 hat2); have BCD := Lib.hid (BCC.out.grown hg2 (BCC.out.ne_own MC.out.all_ (by decide))); have z0 : wd.cell? ⟨gc, 0, none⟩ = some (.int .i64 e) := (BCD.out.cell 0).trans (by simp); have z1 : wd.cell? ⟨gc, 1, none⟩ = some (.slice Ac k cc) := (BCD.out.cell 1).trans (by simp); have z3 : wd.cell? ⟨w.heap.size, 3, none⟩ = some (.int .i64 a3) := ((BA.out.fr MD.out.fr BA.out.lt (by simp)).cell 3).trans (by simp); have ownS := MD.out.since; rw [← HS.out] at ownS; have hwd := MD.out.fr.size; have hrd := hrc.fr ((Fr.refl w.heap.size [] wc).grown hg2 (by omega) (fun q hq => .inl (by have := (ownA.lt q hq).1; omega))) (Nat.le_refl _) (by simp))
              have hl6 : (l ++ ls).length ≤ 1000000 := by rw [← HLN2.out]; omega
              have HLN := blines_any wd MD.out.bk hl6
              rw [← HLN2.out] at HLN
              have HLN := Lib.hid HLN
              have hee := neq_int_self e
              have hnn := neq_int_self (((nl + k) : Nat) : Int)
              go_wp2_with fail
              refine HLN.out.mono ?_
              rintro o wy ⟨Aq, cq, rfl, hownq, fq⟩
              have MY := Lib.hid (MD.out.keep fq)
              have HLY := Lib.hid (lines_yes (c1 := cq) (c2 := c2) HLN2.out (Reads.of_own hownq) (by have h := MY.out.all_; rw [← HLN2.out] at h; exact Reads.of_own h) (by omega))
              clear hownq fq HLN
              go_wp2_with fail
              refine HLY.out.mono ?_
              rintro o wz ⟨rfl, fz⟩
              have MZ := Lib.hid (MY.out.keep fz)
              have HEP := Lib.hid (bepoch_any wz MZ.out.bk)
              have HLE := blen_any wz MZ.out.bk
              rw [← HLN2.out] at HLE
              have HLE := Lib.hid HLE
              clear fz HLY MY
              go_wp2_with fail
              refine HEP.out.mono ?_
              rintro o wq ⟨rfl, rfl⟩
              go_wp2_with fail
              refine HLE.out.mono ?_
              rintro o wq ⟨rfl, rfl⟩
              go_wp2_with fail
              go_roundg (n - (i + 1))
              case measure => omega
              case rel => exact ⟨i + 1, (nl + k), nS, (l ++ ls), S, (E ++ [(e, l.length)]), e, V', A2, AS, c2, cS, by omega, rfl, by go_num, by omega, by omega, rfl, rfl, rfl, .inr ⟨_, rfl⟩, hs13', HLN2, HS, HIS, MZ⟩
    ·
      have hin' : n = i := by omega
      subst hin'
      have BLr := Lib.hid (BL2.out.trans (M.out.fr.below.mono BL2.out.size))
      have BAr := Lib.hid (BA.out.fr M.out.fr BA.out.lt (by simp))
      have hl6 : l.length ≤ 1000000 := by rw [← HL.out]; omega
      obtain ⟨v, hv⟩ : ∃ v, v = onlyV l (a0, a1, a2) := ⟨_, rfl⟩
      obtain ⟨nv, hnv⟩ : ∃ nv, nv = v.length := ⟨_, rfl⟩
      have hvl : nv ≤ 1000000 := by rw [hnv, hv]; exact Nat.le_trans (onlyV_le l (a0, a1, a2)) hl6
      have HSI := fun (wx : World) (h : SB gb gm l l S E ep V (.slice AA nl cA) (.slice AS nS cS) w2 wx) => since_law h HI.out hl6
      have HOF := fun (wx : World) (h : SB gb gm l l S E ep V (.slice AA nl cA) (.slice AS nS cS) w2 wx) => bof_any wx h.bk hl6 a0 a1 a2
      have HON := fun (wx : World) (h : SB gb gm l l S E ep V (.slice AA nl cA) (.slice AS nS cS) w2 wx) => (by have o := h.all_; rw [← HL.out] at o; have r := Reads.of_own o; rw [HL.out] at r; exact ronly_any AA cA wx.heap.size l a0 a1 a2 wx r (Nat.le_refl _) hl6 : Calls Try.prog 20 #[.slice AA l.length cA, .int .i64 a0, .int .i64 a1, .int .i64 a2] wx (OnlyOut l (a0, a1, a2) wx))
      unfold OnlyOut at HOF HON
      rw [← HS.out] at HSI
      rw [← hv, ← hnv] at HOF HON
      rw [← HL.out] at HON
      have HSI := Lib.hid HSI
      have HOF := Lib.hid HOF
      have HON := Lib.hid HON
      have HNV := Lib.hid hnv
      clear hv hnv hl6
      go_upto_region 34 with fail
      have INV := Lib.hid (M.out.keep ((Fr.refl _ _ _).drew))
      clear M
      go_region_held3 (fun wx => wx.cell? ⟨w.heap.size, 0, none⟩ = some (.int .i64 a0) ∧ wx.cell? ⟨w.heap.size, 1, none⟩ = some (.int .i64 a1) ∧ wx.cell? ⟨w.heap.size, 2, none⟩ = some (.int .i64 a2) ∧ wx.cell? ⟨w.heap.size, 3, none⟩ = some (.int .i64 a3)) (exact ⟨(BA.out.fr INV.out.fr BA.out.lt (by simp)).cell 0, (BA.out.fr INV.out.fr BA.out.lt (by simp)).cell 1, (BA.out.fr INV.out.fr BA.out.lt (by simp)).cell 2, (BA.out.fr INV.out.fr BA.out.lt (by simp)).cell 3⟩)
        (first
          | (go_at_call 17; refine (HSI.out _ INV.out).mono ?_; rintro e w' ⟨A1, c1, rfl, hr1, hf⟩; have INV := Lib.hid (INV.out.keep hf); have RS := Lib.hid hr1; clear hf hr1)
          | (go_at_call 13; refine (lines_yes HS.out RS.out (by have h := INV.out.since; rw [← HS.out] at h; exact Reads.of_own h) (by omega)).mono ?_; rintro e w' ⟨rfl, hf⟩; have INV := Lib.hid (INV.out.keep hf); clear hf)
          | (go_at_call 19; refine (HOF.out _ INV.out).mono ?_; rintro e w' ⟨A2, c2, rfl, hown, hf⟩; have INV := Lib.hid (INV.out.keep hf); have RO := Lib.hid (Reads.of_own hown); clear hf hown)
          | (go_at_call 20; refine (HON.out _ INV.out).mono ?_; rintro e w' ⟨A3, c3, rfl, hown, hf⟩; have INV := Lib.hid (INV.out.keep hf); have RO := Lib.hid (RO.out.fr hf (Nat.le_refl _) (by simp)); have RP := Lib.hid (Reads.of_own hown); clear hf hown)
          | (go_at_call 18; refine (vsame_yes HNV.out RO.out RP.out hvl).mono ?_; rintro e w' ⟨rfl, hf⟩; have INV := Lib.hid (INV.out.keep hf); clear hf))
      all_goals
        go_wp2_with fail
        go_ret
        exact ⟨rfl, BL2.out.trans (INV.out.fr.below.mono BL2.out.size)⟩
end Go.Proofs.Ytndjgjnnoknblaa
