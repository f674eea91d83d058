/- forebaylaw12.DenOrder: for every input the call returns true, and each argument reads behind it as it read before. The walk lies in the text that this one imports; here it is lifted to the given row. -/
import Derived.Test.YthfibggbipkmfaaGreatDX24
import Derived.Test.YthfibggbipkmfaaGreatDX20
import Derived.Test.YthfibggbipkmfaaGreatDenOrderJf
import Derived.Test.YthfibggbipkmfaaGreatDX7
import Derived.Test.YthfibggbipkmfaaGreatDX18
namespace Go.Proofs.YthfibggbipkmfaaGreat
open Go.RowKit Go.Fb
set_option linter.unusedVariables false
set_option maxRecDepth 100000 in
set_option maxHeartbeats 16000000 in
theorem walk_DenOrder (A : Option Addr) (n c : Nat) (M : List Ndm) (hn : n ≤ maxLen) (hnc : n ≤ c) (Ar : Option Addr) (nr cr : Nat) (R : List (Nat → Int)) (hl : nr = R.length) (hm : nr ≤ maxLen) (hcr : nr ≤ cr) (w : World) (h : Nds w w.heap.size A n M) (hr : Reads w w.heap.size 3 Ar nr (cellsR R)) :
    Calls Tryz.prog 4 #[.slice A n c, .slice Ar nr cr] w fun e w' => e = .returned (.bool true) ∧ Below w.heap.size w w' := by
  have HM := Lib.hid (fun (wx : World) (hx : Fr w.heap.size [] w wx) => (h.frw hx (Nat.le_refl _) (by simp) : Nds wx w.heap.size A n M))
  have HRD := Lib.hid (fun (wx : World) (hx : Fr w.heap.size [] w wx) => (hr.fr hx (Nat.le_refl _) (by simp) : Reads wx w.heap.size 3 Ar nr (cellsR R)))
  have HL := Lib.hid hl
  have HAW := Lib.hid (awake12_any w)
  clear h hr hl
  go_enter Tryz.func4, Tryz.ntmps4
  go_wp2_with fail
  refine HAW.out.mono ?_
  rintro e w1 ⟨rfl, f1⟩
  have fa := (Fr.refl w1.heap.size [] w1).alloc (Nat.le_refl _) (.cells #[.slice none 0 0, .slice Ar nr cr] 28)
  have BS := Blk.new w1 28 #[.slice none 0 0, .slice Ar nr cr]
  have F1 := Lib.hid f1
  have FA := Lib.hid (f1.trans (fa.mono (B' := w.heap.size) (L' := []) f1.size (by simp)))
  have HGR := Lib.hid (great12_any A (some ⟨w1.heap.size, 0, none⟩) c 1 (w1.alloc (.cells #[.slice none 0 0, .slice Ar nr cr] 28)).heap.size n 1 M [⟨[], R, .slice none 0 0, .slice Ar nr cr⟩] _ ((HM.out _ FA.out).more FA.out.size) (Nat.le_refl _) hn (sgs_one BS HL.out (HRD.out _ FA.out) FA.out.size) (by intro z hz; rw [List.mem_singleton] at hz; subst hz; exact ⟨Nat.zero_le _, by simp only; rw [← HL.out]; exact hm⟩))
  clear f1 fa BS HAW
  go_wp2_with fail
  refine HGR.out.mono ?_
  rintro e w2 ⟨⟨g, rfl, hg⟩, f2⟩
  have F2 := Lib.hid (FA.out.trans (f2.mono (B' := w.heap.size) (L' := []) FA.out.size (by simp)))
  have HG := Lib.hid hg
  clear f2 hg HGR FA F1
  cases g with
  | true =>
    go_wp2_with fail
    go_ret
    exact ⟨rfl, F2.out.below⟩
  | false => ?_
  have hgi := HG.out rfl
  obtain ⟨hsm, hsg, hM20⟩ := hgi.small
  have hr40 : nr ≤ 40 := by rw [HL.out]; exact (hgi.2.2 ⟨[], R, .slice none 0 0, .slice Ar nr cr⟩ (by simp)).2
  have HSM := Lib.hid hsm
  have HCK := Lib.hid (gcheck_any A c w.heap.size n M w2 (HM.out w2 F2.out) F2.out.size hsm)
  obtain ⟨cv, hcv⟩ : ∃ v, v = checkN (fstN M) := ⟨_, rfl⟩
  rw [← hcv] at HCK
  have HCV := Lib.hid hcv
  clear hgi hsm hsg hM20 HG hn hm hcv
  go_wp2_with fail
  refine HCK.out.mono ?_
  rintro e w3 ⟨rfl, f3⟩
  have F3 := Lib.hid (F2.out.trans (f3.mono (B' := w.heap.size) (L' := []) F2.out.size (by simp)))
  clear f3 HCK F2
  by_cases hc0 : cv = 0
  case neg =>
    go_wp2_with fail
    go_ret
    exact ⟨rfl, F3.out.below⟩
  have HRG := Lib.hid (checkN_zero.1 (HCV.out.symm.trans hc0) : RightG (fstN M))
  subst hc0
  clear HCV
  obtain ⟨L, hL⟩ : ∃ L, L = fstN M := ⟨_, rfl⟩
  rw [← hL] at HRG
  have HLM := Lib.hid hL
  clear hL
  go_wp2_with fail
  go_loopg [5, 6, 8] 64 (fun g s5 s6 s8 wr => ∃ (k m : Nat) (A' : Option Addr) (c' : Nat), k ≤ 64 ∧ g = 64 - k ∧ s6 = .int .i64 k ∧ s5 = .slice A' m c' ∧ (s8 = undef ∨ ∃ a, s8 = .pointer a) ∧ m ≤ 40 * k ∧ RowKit.Hid (m = (byKey R k).length) ∧ RowKit.Hid (wr.ownsRow w3.heap.size 56 3 (.slice A' m c') m (cellsR (byKey R k))) ∧ RowKit.Hid (Fr w3.heap.size [] w3 wr))
  case atStart => exact ⟨0, 0, none, 0, by omega, rfl, rfl, rfl, .inl rfl, Nat.le_refl _, Lib.hid rfl, Lib.hid (World.ownsRow_nil _ _ _ _), Lib.hid (Fr.refl _ _ _)⟩
  case round =>
    obtain ⟨k, m0, A0, c0', hk, rfl, rfl, rfl, h8, hm0, HMK, HO, FQ⟩ := hrel
    by_cases hk64 : k < 64
    · have hki : (k : Int) < 64 := by omega
      go_wp2_with fail
      go_loopg [5, 8, 35] nr (fun g s5 s8 s35 wq => ∃ (j m : Nat) (A' : Option Addr) (c' : Nat), j ≤ nr ∧ g = nr - j ∧ s35 = .int .i64 j ∧ s5 = .slice A' m c' ∧ (s8 = undef ∨ ∃ a, s8 = .pointer a) ∧ m ≤ 40 * k + j ∧ RowKit.Hid (m = (byKey R k ++ kf k (R.take j)).length) ∧ RowKit.Hid (wq.ownsRow w3.heap.size 56 3 (.slice A' m c') m (cellsR (byKey R k ++ kf k (R.take j)))) ∧ RowKit.Hid (Fr w3.heap.size [] w3 wq))
      case atStart => exact ⟨0, m0, A0, c0', Nat.zero_le _, rfl, rfl, rfl, h8, by omega, by rw [show kf (k : Int) (R.take 0) = [] from rfl, List.append_nil]; exact HMK, by rw [show kf (k : Int) (R.take 0) = [] from rfl, List.append_nil]; exact HO, FQ⟩
      case round =>
        clear HMK HO FQ h8
        obtain ⟨j, m, A', c', hj, rfl, rfl, rfl, h8, hmj, HM1, HO1, FQ1⟩ := hrel
        by_cases hjn : j < nr
        · have hji : (j : Int) < (nr : Int) := by omega
          obtain ⟨x, hx⟩ : ∃ x, R[j]? = some x := ⟨_, List.getElem?_eq_getElem (by rw [← HL.out]; exact hjn)⟩
          have hrl := HRD.out wr (F3.out.trans (FQ1.out.mono (B' := w.heap.size) (L' := []) F3.out.size (by simp)))
          rw [HL.out] at hrl
          obtain ⟨b2, off2, rfl, hb2, hcx⟩ := reads_rec hrl hx
          have p0 := hcx 0 (by omega)
          have p1 := hcx 1 (by omega)
          have p2 := hcx 2 (by omega)
          simp only [Nat.add_zero, ← Nat.add_assoc] at p0 p1 p2
          have HSN := kf_snoc hx (k : Int)
          clear hcx hx hrl
          go_upto_region 12 with fail
          have BX := Lib.hid (Blk.new wr 56 #[.int .i64 (x 0), .int .i64 (x 1), .int .i64 (x 2)])
          have fa := (Fr.refl wr.heap.size [] wr).alloc (Nat.le_refl _) (.cells #[.int .i64 (x 0), .int .i64 (x 1), .int .i64 (x 2)] 56)
          have HOa := Lib.hid (ownsRow_fr HO1.out fa (fun q hq => ⟨(HO1.out.lt q hq).2, by simp⟩))
          have FQa := Lib.hid (FQ1.out.trans (fa.mono (B' := w3.heap.size) (L' := []) FQ1.out.size (by simp)))
          clear fa HO1 FQ1 p0 p1 p2 hb2 h8
          generalize wr.alloc (.cells #[.int .i64 (x 0), .int .i64 (x 1), .int .i64 (x 2)] 56) = wb at *
          generalize wr.heap.size = gx at *
          have x0 := BX.out.cell 0
          have x1 := BX.out.cell 1
          have x2 := BX.out.cell 2
          simp at x0 x1 x2
          by_cases hkx : x 0 = (k : Int)
          · rw [if_pos hkx] at HSN
            have HSN := Lib.hid HSN
            have HRX := Lib.hid (show [.int .i64 (k : Int), .int .i64 (x 1), .int .i64 (x 2)] = recC x by rw [← hkx]; rfl)
            rw [hkx] at x0
            clear hkx
            have hown := HOa.out
            have hsz := FQa.out.size
            go_wp2_with (at_builtin; refine wpList_app_lit _ rfl (.tmp 43) (.tmp 45) recsTy rfl w3.heap.size (.slice A' m c') m _ rfl hown 1 1 _ rfl rfl (by simp [Value.oneCell']) (by omega) (by omega) hsz ?_; intro A3 c3 w4 hown3 hg3 hat3)
            have F4 := Lib.hid (FQa.out.trans (Fr.of_app hg3 hown hsz))
            have HO3 := Lib.hid hown3
            clear hown3 hg3 hat3 hown
            go_roundg (nr - (j + 1))
            case measure => omega
            case rel => exact ⟨j + 1, m + 1, A3, c3, by omega, rfl, by go_num, rfl, .inr ⟨_, rfl⟩, by omega, by rw [HSN.out, ← List.append_assoc, List.length_append, ← HM1.out]; exact Lib.hid rfl, by rw [HSN.out, ← List.append_assoc, cellsR_app2, show cellsR [x] = [.int .i64 (k : Int), .int .i64 (x 1), .int .i64 (x 2)] by rw [HRX.out]; simp [cellsR]]; exact HO3, F4⟩
          · rw [if_neg hkx] at HSN
            have HSN := Lib.hid HSN
            have hdk : decide (x 0 = (k : Int)) = false := decide_eq_false hkx
            go_wp2_with fail
            go_roundg (nr - (j + 1))
            case measure => omega
            case rel => exact ⟨j + 1, m, A', c', by omega, rfl, by go_num, rfl, .inr ⟨_, rfl⟩, by omega, by rw [HSN.out]; exact HM1, by rw [HSN.out]; exact HOa, FQa⟩
        · obtain rfl : nr = j := by omega
          have htk : R.take nr = R := List.take_of_length_le (by rw [HL.out]; exact Nat.le_refl _)
          rw [htk, ← byKey_succ] at HM1 HO1
          clear htk
          go_wp2_with fail
          go_roundg (64 - (k + 1))
          case measure => omega
          case rel => exact ⟨k + 1, m, A', c', by omega, rfl, by go_num, rfl, h8, by omega, HM1, HO1, FQ1⟩
    · obtain rfl : k = 64 := by omega
      obtain ⟨Q, hQ⟩ : ∃ Q, Q = byKey R 64 := ⟨_, rfl⟩
      rw [← hQ] at HMK HO
      have HQ := Lib.hid hQ
      have HQL := Lib.hid (show m0 ≤ 40 by rw [HMK.out, HQ.out]; exact Nat.le_trans (byKey_le R 64) (by rw [← HL.out]; exact hr40))
      have F4 := Lib.hid (F3.out.trans (FQ.out.mono (B' := w.heap.size) (L' := []) F3.out.size (by simp)))
      have hw34 : w3.heap.size ≤ wr.heap.size := FQ.out.size
      generalize wr = w4 at *
      have HRQ := Lib.hid (fun (wx : World) (hx : Fr w4.heap.size [] w4 wx) => ((Reads.of_own HO.out).fr hx (Nat.le_refl _) (by simp) : Reads wx w4.heap.size 3 A0 m0 (cellsR Q)))
      have HNW := Lib.hid (cnew_any none 0 0 w4.heap.size [] w4 rfl (by omega) Reads.none_ (Nat.le_refl _))
      have hw3 : w.heap.size ≤ w3.heap.size := F3.out.size
      clear hQ hk64 hk hm0 h8 FQ HO
      go_wp2_with fail
      refine HNW.out.mono ?_
      rintro e w5 (⟨hc, _⟩ | ⟨_, rfl, hct, f5⟩)
      · simp at hc
      have HCT := Lib.hid hct
      have F5 := Lib.hid f5
      obtain ⟨gt, hgt⟩ : ∃ g, g = w4.heap.size + 1 := ⟨_, rfl⟩
      obtain ⟨gm, hgm⟩ : ∃ g, g = w4.heap.size := ⟨_, rfl⟩
      rw [← hgt, ← hgm] at HCT
      rw [← hgt]
      have hgt5 : gt < w5.heap.size := HCT.out.bk.lt
      have hgm5 : gm < w5.heap.size := HCT.out.mp.lt
      have HNW2 := Lib.hid (cnew_any none 0 0 w5.heap.size [] w5 rfl (by omega) Reads.none_ (Nat.le_refl _))
      have hgm4 : w4.heap.size ≤ gm := by omega
      clear hct f5 HNW hgt hgm
      go_wp2_with fail
      refine HNW2.out.mono ?_
      rintro e w6 (⟨hc, _⟩ | ⟨_, rfl, hct, f6⟩)
      · simp at hc
      have HCU := Lib.hid hct
      have HCT6 := Lib.hid (HCT.out.keep f6)
      have F6 := Lib.hid (F5.out.trans (f6.mono (B' := w4.heap.size) (L' := []) F5.out.size (by simp)))
      obtain ⟨gu, hgu⟩ : ∃ g, g = w5.heap.size + 1 := ⟨_, rfl⟩
      obtain ⟨gv, hgv⟩ : ∃ g, g = w5.heap.size := ⟨_, rfl⟩
      rw [← hgu, ← hgv] at HCU
      rw [← hgu]
      have hgu6 : gu < w6.heap.size := HCU.out.bk.lt
      have hgv6 : gv < w6.heap.size := HCU.out.mp.lt
      have h56 : w5.heap.size ≤ w6.heap.size := f6.size
      have hu5 : w5.heap.size ≤ gu := by omega
      have hv5 : w5.heap.size ≤ gv := by omega
      clear hgu hgv
      have hW6 := F4.out.trans (F6.out.mono (B' := w.heap.size) (L' := []) F4.out.size (by simp))
      obtain ⟨T0, hT0⟩ : ∃ T, T = tabL [] := ⟨_, rfl⟩
      rw [← hT0] at HCT6 HCU
      have HT0 := Lib.hid (show TOk T0 by rw [hT0]; exact TOk.zero)
      have HFEW := Lib.hid (fun (l : List (Nat → Int)) (hl : l.length ≤ 40) (hb : l.all recR = true) => (by have h1 := flow_few HRG.out hb (S := ⟨T0, [], cnt0 L⟩) HT0.out; have h2 := Nat.mul_le_mul_right 26507215 hl; simp only [List.length_nil] at h1; omega : (flowD L l ⟨T0, [], cnt0 L⟩).out.length ≤ 1073741000))
      have HRA := Lib.hid (by
        have h1 := drunD_any gt gm T0 A Ar c cr w.heap.size w.heap.size n nr M R w6 (HM.out w6 hW6) hW6.size HSM.out (by rw [← HLM.out]; exact HRG.out) HL.out (by omega) (HRD.out w6 hW6) HCT6.out hW6.size (by have := F4.out.size; omega) HT0.out (by rw [← HLM.out]; exact fun hb => Nat.le_trans (HFEW.out R (by rw [← HL.out]; exact hr40) hb) (by decide))
        rw [← HLM.out] at h1
        exact h1 : Calls Tryz.prog 13 #[.slice A n c, .pointer (some ⟨gt, 0, none⟩), .slice Ar nr cr] w6 (DRunD L R T0 gt gm w6))
      have HW6 := Lib.hid hW6
      have hw4 : w.heap.size ≤ w4.heap.size := F4.out.size
      have hgv4 : w4.heap.size ≤ gv := by have := F5.out.size; omega
      have hne1 : gu ≠ gm := by omega
      have hne2 : gv ≠ gm := by omega
      have hne3 : gt ≠ gv := by omega
      have HRB := Lib.hid (fun (wx : World) (hx : Fr w6.heap.size [gm] w6 wx) => (by
        have k1 := HW6.out.trans (hx.mono (B' := w.heap.size) (L' := []) HW6.out.size (by simp; omega))
        have k2 := F6.out.trans (hx.mono (B' := w4.heap.size) (L' := []) F6.out.size (by simp; omega))
        have h1 := drunD_any gu gv T0 A A0 c c0' w.heap.size w4.heap.size n m0 M Q wx (HM.out wx k1) k1.size HSM.out (by rw [← HLM.out]; exact HRG.out) (by rw [HMK.out]) (by have := HQL.out; omega) (HRQ.out wx k2) (HCU.out.fr hx hgu6 (by simp; exact hne1) hgv6 (by simp; exact hne2)) k2.size hgv4 HT0.out (by rw [← HLM.out]; exact fun hb => Nat.le_trans (HFEW.out Q (by rw [← HMK.out]; exact HQL.out) hb) (by decide))
        rw [← HLM.out] at h1
        exact h1 : Calls Tryz.prog 13 #[.slice A n c, .pointer (some ⟨gu, 0, none⟩), .slice A0 m0 c0'] wx (DRunD L Q T0 gu gv wx)))
      clear hct f6 HNW2 HCT hT0 hW6 HCU HCT6
      unfold DRunD at HRA HRB
      go_wp2_with fail
      refine HRA.out.mono ?_
      rintro e w7 (⟨ha, rfl, f7⟩ | ⟨ha, A7, n7, c7, rfl, ho7, hct7, f7⟩)
      · have HR7 := Lib.hid (HRB.out w7 (f7.mono (B' := w6.heap.size) (L' := [gm]) (Nat.le_refl _) (by simp)))
        have F7 := Lib.hid (HW6.out.trans (f7.mono (B' := w.heap.size) (L' := []) HW6.out.size (by simp)))
        clear ha f7 HRA HRB
        go_wp2_with fail
        refine HR7.out.mono ?_
        rintro e w8 (⟨hb, rfl, f8⟩ | ⟨hb, A8, n8, c8, rfl, ho8, hct8, f8⟩)
        · have F8 := Lib.hid (F7.out.trans (f8.mono (B' := w.heap.size) (L' := []) F7.out.size (by simp)))
          clear hb f8
          go_wp2_with fail
          go_ret
          exact ⟨rfl, F8.out.below⟩
        · have F8 := Lib.hid (F7.out.trans (f8.mono (B' := w.heap.size) (L' := []) F7.out.size (by simp; omega)))
          clear hb f8 ho8 hct8
          go_wp2_with fail
          go_ret
          exact ⟨rfl, F8.out.below⟩
      · have HR7 := Lib.hid (HRB.out w7 f7)
        have F7 := Lib.hid (HW6.out.trans (f7.mono (B' := w.heap.size) (L' := []) HW6.out.size (by simp; omega)))
        have HA := Lib.hid ha
        have HO7 := Lib.hid ho7
        have HC7 := Lib.hid hct7
        have h67 : w6.heap.size ≤ w7.heap.size := f7.size
        clear ha f7 HRA HRB ho7 hct7
        go_wp2_with fail
        refine HR7.out.mono ?_
        rintro e w8 (⟨hb, rfl, f8⟩ | ⟨hb, A8, n8, c8, rfl, ho8, hct8, f8⟩)
        · rw [HQ.out, byKey_all HA.out] at hb
          cases hb
        have F8 := Lib.hid (F7.out.trans (f8.mono (B' := w.heap.size) (L' := []) F7.out.size (by simp; omega)))
        obtain ⟨hT, hpre, hlen⟩ := order_free L (l := R) (m := Q) (fun k => by rw [HQ.out, kf_all HA.out]) ⟨T0, [], cnt0 L⟩
        have hok := flow_ok HRG.out HA.out (s := ⟨T0, [], cnt0 L⟩) HT0.out
        have hfew := HFEW.out R (by rw [← HL.out]; exact hr40) HA.out
        rw [← hT] at hct8
        obtain ⟨E1, hE1⟩ : ∃ E, E = flowD L R ⟨T0, [], cnt0 L⟩ := ⟨_, rfl⟩
        obtain ⟨E2, hE2⟩ : ∃ E, E = flowD L Q ⟨T0, [], cnt0 L⟩ := ⟨_, rfl⟩
        rw [← hE1] at HO7 HC7 hct8 hT hpre hlen hok hfew
        rw [← hE2] at ho8 hpre hlen
        have e7 := lnlen HO7.out
        have e8 := lnlen ho8
        have ho7w := ownsRow_fr HO7.out f8 (fun q hq => ⟨(HO7.out.lt q hq).2, by have := (HO7.out.lt q hq).1; simp; omega⟩)
        have HAL := Lib.hid (by
          have h1 := dalike_any A7 A8 n7 n8 c7 c8 w8.heap.size E1.out E2.out w8 e7 e8 (by omega) (by omega) (Reads.of_own ho7w) (Reads.of_own ho8) (Nat.le_refl _)
          rw [decide_eq_true hlen, hpre, Bool.true_and] at h1
          exact h1 : Calls Tryz.prog 17 #[.slice A7 n7 c7, .slice A8 n8 c8] w8 fun e w' => e = .returned (.bool true) ∧ Fr w8.heap.size [] w8 w')
        have hc7w := HC7.out.fr f8 HC7.out.bk.lt (by simp; omega) HC7.out.mp.lt (by simp; omega)
        have HCA := Lib.hid (fun (wx : World) (hx : Fr w8.heap.size [] w8 wx) => call_any gt gm E1.T hok wx (hc7w.fr hx hc7w.bk.lt (by simp) hc7w.mp.lt (by simp)))
        have HCB := Lib.hid (fun (wx : World) (hx : Fr w8.heap.size [] w8 wx) => call_any gu gv E1.T hok wx (hct8.fr hx hct8.bk.lt (by simp) hct8.mp.lt (by simp)))
        have h512 := allT_few E1.T
        obtain ⟨la, hla⟩ : ∃ l, l = allT E1.T := ⟨_, rfl⟩
        rw [← hla] at HCA HCB h512
        unfold EntsOut at HCA HCB
        clear hT hpre hlen hok hfew hE1 hE2 e7 e8 ho7w hc7w hct8 ho8 HO7 HC7 hb f8 HR7 hla
        go_wp2_with fail
        refine HAL.out.mono ?_
        rintro e w9 ⟨rfl, f9⟩
        have F9 := Lib.hid f9
        have HCA9 := Lib.hid (HCA.out w9 f9)
        clear f9 HAL HCA
        go_wp2_with fail
        refine HCA9.out.mono ?_
        rintro e w10 ⟨Aa, ca, rfl, ra, _, _, f10⟩
        have F10 := Lib.hid (F9.out.trans (f10.mono (B' := w8.heap.size) (L' := []) F9.out.size (by simp)))
        have RA := Lib.hid ra
        have HCB10 := Lib.hid (HCB.out w10 F10.out)
        clear f10 ra HCA9 HCB F9
        go_wp2_with fail
        refine HCB10.out.mono ?_
        rintro e w11 ⟨Ab, cb, rfl, rb', _, _, f11⟩
        have F11 := Lib.hid (F10.out.trans (f11.mono (B' := w8.heap.size) (L' := []) F10.out.size (by simp)))
        have HSY := Lib.hid (same_yes (c1 := ca) (c2 := cb) (RA.out.fr f11 (Nat.le_refl _) (by simp)) rb' (by omega))
        clear f11 rb' HCB10 F10 RA
        go_wp2_with fail
        refine HSY.out.mono ?_
        rintro e w12 ⟨rfl, f12⟩
        have F12 := Lib.hid (F8.out.trans ((F11.out.trans (f12.mono (B' := w8.heap.size) (L' := []) F11.out.size (by simp))).mono (B' := w.heap.size) (L' := []) F8.out.size (by simp)))
        clear f12
        go_wp2_with fail
        go_ret
        exact ⟨rfl, F12.out.below⟩
end Go.Proofs.YthfibggbipkmfaaGreat
namespace Go.Proofs.YthfibggbipkmfaaGreat
open Go.ChangeShapes Go.WideShapes Go.ChangeAt Go.RowKit Go.Fb
set_option linter.unusedVariables false

set_option maxRecDepth 100000 in
theorem lifted_DenOrder (os : Os) (started : os.Started) (H : Type) (enc : TypeId × Value → H) :
    ReturnsInHanded {} Tryz.checked os 4 .any (Rows.denOrderSpec.pre6 enc Tryz.prog Tryz.f4 Rows.denOrderRow.domain false) (Rows.denOrderSpec.post enc Tryz.prog Tryz.f4 false true false false) := by
  refine returnsInHanded_of_change (C := Tryz.checked) (show ownKnob Tryz.prog.godebug = none by kernel_rfl) started (by kernel_rfl) Tryz.func4
    (ChangeSpec.witness6 (enc := enc) (C := Tryz.checked) false ⟨#[], #[.slice none 0 0, .slice none 0 0], []⟩ 8 (by kernel_rfl) (by kernel_rfl) (by kernel_rfl) (by kernel_rfl)) ?_
  intro W base args ds gs before hval0 hW hcnd _
  have hval : ∀ (j : Nat) t v, Tryz.f4.params[j]? = some t → args[j]? = some v → Value.okWide Tryz.prog W .any base t v := hval0
  have hW' := hW
  obtain ⟨p, q, hA0, hV, rfl, hfz, hnd⟩ := hW
  have hA : DataW.TrodAll enc Tryz.prog W 0 (fun _ => true) true Tryz.f4.params.toList args.toList ds p := hA0
  rw [Tryz.params4] at hA hval
  obtain ⟨v0, vs0, d0, ds0, p0, q0, hargs, rfl, rfl, h0, r0'⟩ := trodAll_cons hA
  obtain ⟨v1, vs1, d1, ds1, p1, q1, rfl, rfl, rfl, h1, r1'⟩ := trodAll_cons r0'
  obtain ⟨rfl, rfl, rfl⟩ := trodAll_nil r1'
  obtain rfl : args = #[v0, v1] := by cases args; simp_all
  obtain ⟨rfl, rfl⟩ := trodVars_none hV
  have k0 := h0
  have lt0 : ∀ x ∈ p0, x.block < W.heap.size := by obtain ⟨m, hm⟩ := k0; exact DataW.trod_lt m _ _ _ hm
  have k1 := h1
  have lt1 : ∀ x ∈ p1, x.block < W.heap.size := by obtain ⟨m, hm⟩ := k1; exact DataW.trod_lt m _ _ _ hm
  obtain ⟨A0, n0, c0, M0, rfl, l0, m0, r0, wf0⟩ := arg_nodes (hval 0 22 v0 rfl rfl) h0
  obtain ⟨A1, c1, e1, rfl, g1, m1, r1⟩ := arg_recs (hval 1 23 v1 rfl rfl) h1
  clear hA0 hval0
  refine (walk_DenOrder A0 n0 c0 M0 (Nat.le_trans l0 m0) l0 A1 e1.length c1 e1 rfl (Nat.le_trans g1 m1) g1 W r0 r1).mono fun e W' ⟨he, bel⟩ => ?_
  subst he
  exact ⟨_, rfl, _, _, _, [], _, [], hW', trodAll_mk1 (shut_bool Tryz.underlying4 _), (trodAll_cons_mk (Below.trod (show laidOutB Tryz.prog = true by kernel_rfl) (by kernel_rfl) (of_decide_eq_true (by kernel_rfl)) k0 bel lt0) (trodAll_cons_mk (Below.trod (show laidOutB Tryz.prog = true by kernel_rfl) (by kernel_rfl) (of_decide_eq_true (by kernel_rfl)) k1 bel lt1) trodAll_mk0)), rfl, bel.frame _, fun h => by cases h⟩

theorem DenOrder_holds : Rows.DenOrderSaid :=
  OpenClaim.holds_of_wide 4 Tryz.f4 rfl rfl rfl rfl rfl rfl rfl ⟨rfl, rfl, rfl, rfl, rfl⟩ rfl rfl rfl rfl rfl (by kernel_rfl) Tryz.func4 jf_DenOrder
    (of_decide_eq_true (by kernel_rfl)) (by unfold Func.isWrapper; first | (rw [if_pos (by decide +kernel)]; kernel_rfl) | (rw [if_neg (by decide +kernel)]; exact ⟨rfl, rfl⟩))
    (fun os started H enc _ => lifted_DenOrder os started H enc)
#print axioms DenOrder_holds
end Go.Proofs.YthfibggbipkmfaaGreat
