/- forebaylaw12.DenMoves: for every input the call returns true, and each argument reads behind it as it read before. The walk lies in the text that this one imports; here it is lifted to the given row. -/
import Derived.Test.YthfibggbipkmfaaGreatDX24
import Derived.Test.YthfibggbipkmfaaGreatDX25
import Derived.Test.YthfibggbipkmfaaGreatDX22
import Derived.Test.YthfibggbipkmfaaGreatDenMovesJf
import Derived.Test.YthfibggbipkmfaaGreatDX7
import Derived.Test.YthfibggbipkmfaaGreatDX26
namespace Go.Proofs.YthfibggbipkmfaaGreat
open Go.RowKit Go.Fb
set_option linter.unusedVariables false
/-- Nodes that a slice reads, apart from a block that is written. -/
structure NOff (q : Option Nat) (w : World) (A : Option Addr) (n : Nat) (M : List Ndm) : Prop where
  nds : Nds w w.heap.size A n M
  row : 0 < n → ∀ ad, A = some ad → some ad.block ≠ q
  inn : ∀ m ∈ M, Off q m.2.1 ∧ Off q m.2.2
theorem NOff.fr {q : Option Nat} {w w' : World} {A : Option Addr} {n : Nat} {M : List Ndm} (h : NOff q w A n M) (hf : Fr w.heap.size [] w w') : NOff q w' A n M :=
  ⟨(h.nds.frw hf (Nat.le_refl _) (by simp)).more hf.size, h.row, h.inn⟩
theorem reads_apart {w : World} {B size n : Nat} {A : Option Addr} {xs : List Value} (h : Reads w B size A n xs) {g : Nat} (hg : B ≤ g) : 0 < n → ∀ ad, A = some ad → some ad.block ≠ some g := by
  intro hn ad ha e
  obtain ⟨b, off, e1, hb, _⟩ := h.2 hn
  rw [e1] at ha
  injection ha with ha
  injection e with e
  rw [← ha] at e
  simp only at e
  omega
theorem NOff.grow {q q' : Option Nat} {w w' : World} {A : Option Addr} {n : Nat} {M : List Ndm} (h : NOff q w A n M) (hf : Fr w.heap.size q.toList w w') (hq : q' = q ∨ q' = some w.heap.size) : NOff q' w' A n M := by
  have key : ∀ ad : Addr, some ad.block ≠ q → ad.block ∉ q.toList := by
    intro ad ha hm
    cases q with
    | none => simp at hm
    | some g => simp at hm; exact ha (by rw [hm])
  have hin : ∀ m ∈ M, NdIn w' w.heap.size m := fun m hm => by
    obtain ⟨⟨A1, c1, h1, h2⟩, ⟨A2, c2, h3, h4⟩⟩ := h.nds.inn m hm
    obtain ⟨p1, p2⟩ := h.inn m hm
    exact ⟨⟨A1, c1, h1, h2.frL hf (Nat.le_refl _) (fun hn ad ha => key ad (p1 A1 _ c1 h1 hn ad ha))⟩, ⟨A2, c2, h3, h4.frL hf (Nat.le_refl _) (fun hn ad ha => key ad (p2 A2 _ c2 h3 hn ad ha))⟩⟩
  refine ⟨(Nds.mk h.nds.num (h.nds.rd.frL hf (Nat.le_refl _) (fun hn ad ha => key ad (h.row hn ad ha))) hin : Nds w' w.heap.size A n M).more hf.size, ?_, ?_⟩
  · rcases hq with rfl | rfl
    · exact h.row
    · exact reads_apart h.nds.rd (Nat.le_refl _)
  · intro m hm
    rcases hq with rfl | rfl
    · exact h.inn m hm
    · obtain ⟨⟨A1, c1, h1, h2⟩, ⟨A2, c2, h3, h4⟩⟩ := h.nds.inn m hm
      rw [h1, h3]
      exact ⟨reads_off h2 (Nat.le_refl _), reads_off h4 (Nat.le_refl _)⟩
theorem NOff.nil {w : World} {A : Option Addr} {n : Nat} {M : List Ndm} (h : Nds w w.heap.size A n M) : NOff none w A n M := ⟨h, (fun _ _ _ e => by cases e), fun _ _ => ⟨off_none _, off_none _⟩⟩
theorem NOff.new {q : Option Nat} {base : Nat} {w : World} {A : Option Addr} {n c : Nat} {M : List Ndm} (h : Nmd base w A n c M) (hq : ∀ g, q = some g → g < base) : NOff q w A n M := by
  refine ⟨h.nds (Fr.refl _ [] _) (by simp), fun hn ad ha e => ?_, fun m hm => ?_⟩
  · have hb : (Value.slice A n c).ownBlock = some ad.block ∨ A = Option.none := by
      rcases h.own.2 with ⟨e1, _⟩ | ⟨g, cap, cur, e1, _⟩
      · injection e1 with e1
        exact .inr e1
      · refine .inl ?_
        rw [e1]
        injection e1 with e1
        rw [e1] at ha
        injection ha with ha
        rw [← ha]
        rfl
    rcases hb with hb | hb
    · have := (h.own.lt _ hb).1
      have := hq ad.block e.symm
      omega
    · rw [hb] at ha; cases ha
  · obtain ⟨_, _, _, g1, g2, _⟩ := h.inn m hm
    cases q with
    | none => exact ⟨off_none _, off_none _⟩
    | some g => exact ⟨fresh_off g1 (hq g rfl), fresh_off g2 (hq g rfl)⟩
theorem recsZ_snoc {Z : List Sg} {k : Nat} {z : Sg} (hz : Z[k]? = some z) : recsZ (bare (Z.take (k + 1))) = recsZ (bare (Z.take k)) ++ z.R := by
  rw [List.take_add_one, hz]
  unfold recsZ bare
  rw [Option.toList_some, List.map_append, List.flatMap_append]
  simp
theorem idles_cons (L : List Nd) (z : Sg) (Z : List Sg) : idles L (bare (z :: Z)) = if (fstS z.P).length = 0 then idles L (bare Z) else idleN L (fstS z.P) && idles (applyN L (fstS z.P)).2.2 (bare Z) := rfl
set_option maxRecDepth 100000 in
set_option maxHeartbeats 16000000 in
theorem walk_DenMoves (A : Option Addr) (n c : Nat) (M : List Ndm) (hn : n ≤ maxLen) (Az : Option Addr) (nz cz : Nat) (Z : List Sg) (hmz : ∀ z ∈ Z, z.P.length ≤ maxLen ∧ z.R.length ≤ maxLen) (w : World) (h : Nds w w.heap.size A n M) (hZ : Sgs w w.heap.size Az nz Z) :
    Calls Tryz.prog 7 #[.slice A n c, .slice Az nz cz] w fun e w' => e = .returned (.bool true) ∧ Below w.heap.size w w' := by
  have HM := Lib.hid (fun (wx : World) (hx : Fr w.heap.size [] w wx) => (h.frw hx (Nat.le_refl _) (by simp) : Nds wx w.heap.size A n M))
  have HZ := Lib.hid (fun (wx : World) (hx : Fr w.heap.size [] w wx) => (hZ.frw hx (Nat.le_refl _) (by simp) : Sgs wx w.heap.size Az nz Z))
  have HNZ := Lib.hid hZ.num
  have HAW := Lib.hid (awake12_any w)
  clear h hZ
  go_enter Tryz.func7, Tryz.ntmps7
  go_wp2_with fail
  refine HAW.out.mono ?_
  rintro e w1 ⟨rfl, f1⟩
  have F1 := Lib.hid f1
  have HGR := Lib.hid (great12_any A Az c cz w.heap.size n nz M Z w1 (HM.out w1 f1) f1.size hn (HZ.out w1 f1) hmz)
  clear f1 HAW hmz
  go_wp2_with fail
  refine HGR.out.mono ?_
  rintro e w2 ⟨⟨g, rfl, hg⟩, f2⟩
  have F2 := Lib.hid (F1.out.trans (f2.mono (B' := w.heap.size) (L' := []) F1.out.size (by simp)))
  have HG := Lib.hid hg
  clear f2 hg HGR F1
  cases g with
  | true =>
    go_wp2_with fail
    go_ret
    exact ⟨rfl, F2.out.below⟩
  | false => ?_
  have hgi := HG.out rfl
  obtain ⟨hsm, hsg, hM20⟩ := hgi.small
  have HR40 := Lib.hid (fun z hz => (hgi.2.2 z hz).2 : ∀ z ∈ Z, z.R.length ≤ 40)
  have HSG := Lib.hid hsg
  have hz5 : nz ≤ 5 := by rw [HNZ.out]; exact hgi.2.1
  have hn20 : n ≤ 20 := by rw [(HM.out w2 F2.out).num]; exact hM20
  have HSM := Lib.hid hsm
  have HCK := Lib.hid (gcheck_any A c w.heap.size n M w2 (HM.out w2 F2.out) F2.out.size hsm)
  obtain ⟨cv, hcv⟩ : ∃ v, v = checkN (fstN M) := ⟨_, rfl⟩
  rw [← hcv] at HCK
  have HCV := Lib.hid hcv
  clear hgi hsm hsg hM20 HG hn hcv
  go_wp2_with fail
  refine HCK.out.mono ?_
  rintro e w3 ⟨rfl, f3⟩
  have F3 := Lib.hid (F2.out.trans (f3.mono (B' := w.heap.size) (L' := []) F2.out.size (by simp)))
  clear f3 HCK F2
  by_cases hc0 : cv = 0
  case neg =>
    go_wp2_with fail
    go_ret
    exact ⟨rfl, F3.out.below⟩
  have HRG := Lib.hid (checkN_zero.1 (HCV.out.symm.trans hc0) : RightG (fstN M))
  subst hc0
  clear HCV
  have hw3 : w.heap.size ≤ w3.heap.size := F3.out.size
  go_wp2_with fail
  go_loopg [5, 6, 8, 30] nz (fun g s5 s6 s8 s30 wr => ∃ (k m : Nat) (A' : Option Addr) (c' : Nat) (Am : Option Addr) (nm cm : Nat) (Mm : List Ndm), k ≤ nz ∧ g = nz - k ∧ s30 = .int .i64 k ∧ s5 = .slice A' m c' ∧ s6 = .slice Am nm cm ∧ (s8 = undef ∨ ∃ a, s8 = .pointer a) ∧ m ≤ 40 * k ∧ RowKit.Hid (m = (recsZ (bare (Z.take k))).length) ∧ RowKit.Hid (wr.ownsRow w3.heap.size 56 3 (.slice A' m c') m (cellsR (recsZ (bare (Z.take k))))) ∧ RowKit.Hid (NOff (Value.slice A' m c').ownBlock wr Am nm Mm ∧ Small Mm ∧ RightG (fstN Mm)) ∧ RowKit.Hid (idles (fstN M) (bare Z) = idles (fstN Mm) (bare (Z.drop k))) ∧ RowKit.Hid (Fr w3.heap.size [] w3 wr))
  case atStart => exact ⟨0, 0, none, 0, A, n, c, M, Nat.zero_le _, rfl, rfl, rfl, rfl, .inl rfl, Nat.le_refl _, Lib.hid rfl, Lib.hid (World.ownsRow_nil _ _ _ _), Lib.hid ⟨NOff.nil ((HM.out w3 F3.out).more F3.out.size), HSM.out, HRG.out⟩, Lib.hid rfl, Lib.hid (Fr.refl _ _ _)⟩
  case round =>
    obtain ⟨k, m, A', c', Am, nm, cm, Mm, hk, rfl, rfl, rfl, rfl, h8, hmk, HMK, HO, HNO, HID, FQ⟩ := hrel
    by_cases hkn : k < nz
    · have hki : (k : Int) < (nz : Int) := by omega
      have hk0 : (0 : Int) ≤ (k : Int) := by omega
      obtain ⟨z, hz⟩ : ∃ z, Z[k]? = some z := ⟨_, List.getElem?_eq_getElem (by rw [← HNZ.out]; exact hkn)⟩
      have hzm := List.mem_of_getElem? hz
      have hzs := HSG.out z hzm
      have hz40 := HR40.out z hzm
      have FWr := F3.out.trans (FQ.out.mono (B' := w.heap.size) (L' := []) F3.out.size (by simp))
      have HSW := HZ.out wr FWr
      obtain ⟨bz, oz, rfl, hbz, p0, p1⟩ := HSW.get hz
      have hzi := HSW.inn z hzm
      have hdr : Z.drop k = z :: Z.drop (k + 1) := by
        obtain ⟨hlt, hg⟩ := List.getElem?_eq_some_iff.1 hz
        rw [List.drop_eq_getElem_cons hlt, hg]
      have hsn := recsZ_snoc hz
      rw [hdr, idles_cons] at HID
      clear hdr hz HSW hzm
      obtain ⟨P, R, sp, sr⟩ := z
      obtain ⟨⟨Ap, cp, hsp, hP⟩, ⟨Ar, cr, hsr, hR⟩⟩ := hzi
      simp only at hsp hsr hP hR p0 p1 hzs hz40 HID hsn
      subst hsp
      subst hsr
      obtain ⟨hz1, hz2, hz3⟩ := hzs
      have HZ1 := Lib.hid hz1
      have HSN := Lib.hid hsn
      obtain ⟨np, hnp⟩ : ∃ m, m = P.length := ⟨_, rfl⟩
      obtain ⟨nr, hnr⟩ : ∃ m, m = R.length := ⟨_, rfl⟩
      rw [← hnp] at hP p0 hz2
      rw [← hnr] at hR p1 hz3 hz40
      have HNP := Lib.hid (show (fstS P).length = np by unfold fstS; rw [List.length_map, hnp])
      rw [HNP.out] at HID
      have HNR := Lib.hid hnr
      have hBr : w.heap.size ≤ wr.heap.size := FWr.size
      have fa := (Fr.refl wr.heap.size [] wr).alloc (Nat.le_refl _) (.cells #[.slice Ap np cp, .slice Ar nr cr] 28)
      have BX := Lib.hid (Blk.new wr 28 #[.slice Ap np cp, .slice Ar nr cr])
      have HPa := Lib.hid (hP.frw fa hBr (by simp))
      have HRa := Lib.hid (hR.fr fa hBr (by simp))
      have HNa := Lib.hid (And.intro (HNO.out.1.fr fa) HNO.out.2)
      have HOa := Lib.hid (ownsRow_fr HO.out fa (fun q hq => ⟨(HO.out.lt q hq).2, by simp⟩))
      have FQa := Lib.hid (FQ.out.trans (fa.mono (B' := w3.heap.size) (L' := []) FQ.out.size (by simp)))
      clear fa hz1 hP hR hnp hnr HNO HO FQ h8 hsn FWr
      go_upto_region 10 with fail
      clear p0 p1
      generalize wr.alloc (.cells #[.slice Ap np cp, .slice Ar nr cr] 28) = wa at *
      generalize wr.heap.size = gx at *
      have x0 := BX.out.cell 0
      have x1 := BX.out.cell 1
      simp at x0 x1
      have hwa : w3.heap.size ≤ wa.heap.size := FQa.out.size
      rcases Nat.eq_zero_or_pos np with hp | hp
      case' inl =>
        have hle : (np : Int) ≤ 0 := by omega
        rw [if_pos hp] at HID
        go_upto_region 14 with fail
        clear x0
        generalize Am = Am2 at *
        generalize nm = nm2 at *
        generalize cm = cm2 at *
        generalize Mm = Mm2 at *
        generalize wa = w5 at *
      case' inr =>
        have hlt : (0 : Int) < (np : Int) := by omega
        rw [if_neg (by omega)] at HID
        have HDL := Lib.hid (idle_any Am Ap cm cp wa.heap.size nm np Mm P wa HNa.out.1.nds (Nat.le_refl _) HNa.out.2.1 (HPa.out.more (by omega)) HZ1.out (by omega))
        have HAP := Lib.hid (fun (wx : World) (hx : Fr wa.heap.size [] wa wx) => papply_any Am Ap cm cp wa.heap.size nm np Mm P wx (HNa.out.1.nds.frw hx (Nat.le_refl _) (by simp)) hx.size HNa.out.2.1 ((HPa.out.more (by omega)).frw hx (Nat.le_refl _) (by simp)) HZ1.out (by omega))
        obtain ⟨iv, hiv⟩ : ∃ v, v = idleN (fstN Mm) (fstS P) := ⟨_, rfl⟩
        rw [← hiv] at HDL HID
        have HIV := Lib.hid hiv
        clear hiv
        go_wp2_with fail
        refine HDL.out.mono ?_
        rintro e w4 ⟨rfl, f4⟩
        have HAP4 := Lib.hid (HAP.out w4 f4)
        have F4 := Lib.hid f4
        have BX4 := Lib.hid (BX.out.fr f4 BX.out.lt (by simp))
        clear f4 HAP HDL x0 x1 BX
        cases iv with
        | false =>
          have FF := Lib.hid (F3.out.trans ((FQa.out.trans (F4.out.mono (B' := w3.heap.size) (L' := []) hwa (by simp))).mono (B' := w.heap.size) (L' := []) F3.out.size (by simp)))
          go_wp2_with fail
          go_ret
          exact ⟨rfl, FF.out.below⟩
        | true => ?_
        obtain ⟨hap0, _⟩ := idle_all HIV.out.symm
        rw [Bool.true_and] at HID
        obtain ⟨ap, hap⟩ : ∃ a, a = applyN (fstN Mm) (fstS P) := ⟨_, rfl⟩
        rw [← hap] at HAP4 HID hap0
        have x0 := BX4.out.cell 0
        simp at x0
        unfold ApOut at HAP4
        have HP0 := Lib.hid hap0
        clear hap hap0 HIV
        go_wp2_with fail
        refine HAP4.out.mono ?_
        rintro e w5 (⟨e1, _⟩ | ⟨e1, Am2, cm2, nm2, Mm2, rfl, hnm, hfm, hrg, f5⟩)
        · exact absurd HP0.out e1
        have hw4 : wa.heap.size ≤ w4.heap.size := F4.out.size
        have F5 := Lib.hid (F4.out.trans (f5.mono (B' := wa.heap.size) (L' := []) hw4 (by simp)))
        have HNb := Lib.hid (show NOff (Value.slice A' m c').ownBlock w5 Am2 nm2 Mm2 ∧ Small Mm2 ∧ RightG (fstN Mm2) from ⟨NOff.new hnm (fun g hg => by have := (HOa.out.lt g hg).2; omega), small_right (by rw [hfm]; exact hrg), by rw [hfm]; exact hrg⟩)
        rw [← hfm] at HID
        have HOb := Lib.hid (ownsRow_fr HOa.out F5.out (fun q hq => ⟨(HOa.out.lt q hq).2, by simp⟩))
        have FQb := Lib.hid (FQa.out.trans (F5.out.mono (B' := w3.heap.size) (L' := []) hwa (by simp)))
        have BXb := Lib.hid (BX4.out.fr f5 BX4.out.lt (by simp))
        have HRb := Lib.hid (HRa.out.fr F5.out (by omega) (by simp))
        clear hnm hfm hrg f5 HNa HOa FQa BX4 HRa x0 HAP4 HP0 F4 F5 HPa
        have x1 := BXb.out.cell 1
        simp at x1
        go_upto_region 14 with fail
        have HNa := HNb
        have HOa := HOb
        have FQa := FQb
        have BX := BXb
        have HRa := HRb
        clear HNb HOb FQb BXb HRb
      all_goals
        have hown := HOa.out
        have hsz : w3.heap.size ≤ w5.heap.size := FQa.out.size
        have hrm := HRa.out
        go_wp2_with (at_builtin; refine wpList_app2 _ rfl (.tmp 51) (.tmp 53) recsTy rfl w3.heap.size (.slice A' m c') m _ rfl hown w.heap.size Ar nr cr (cellsR R) rfl hrm rcOne (by omega) (by omega) hsz ?_; intro A7 c7 w7 hown7 hg7 hat7)
        have f7 := (Fr.refl w5.heap.size (Value.slice A' m c').ownBlock.toList w5).grown hg7 (Nat.le_refl _) (fun k hk => .inr (by simp [hk]))
        have HN7 := Lib.hid (And.intro (HNa.out.1.grow f7 hat7) HNa.out.2)
        have F7 := Lib.hid (FQa.out.grown hg7 hsz (fun q hq => .inl (hown.lt q hq).1))
        have HO7 := Lib.hid hown7
        clear hown7 hg7 hat7 hown f7
        go_roundg (nz - (k + 1))
        case measure => omega
        case rel => exact ⟨k + 1, m + nr, A7, c7, Am2, nm2, cm2, Mm2, by omega, rfl, by go_num, rfl, rfl, .inr ⟨_, rfl⟩, by omega, by rw [HSN.out, List.length_append, ← HMK.out, ← HNR.out]; exact Lib.hid rfl, by rw [HSN.out, cellsR_app2]; exact HO7, HN7, HID, F7⟩
    · obtain rfl : k = nz := by omega
      rw [HNZ.out, List.drop_length] at HID
      rw [HNZ.out, List.take_length] at HMK HO
      have HI1 := Lib.hid (HID.out : idles (fstN M) (bare Z) = true)
      obtain ⟨Q, hQ⟩ : ∃ Q, Q = recsZ (bare Z) := ⟨_, rfl⟩
      rw [← hQ] at HMK HO
      have F4 := Lib.hid (F3.out.trans (FQ.out.mono (B' := w.heap.size) (L' := []) F3.out.size (by simp)))
      have hm200 : m ≤ 200 := by omega
      generalize wr = w4 at *
      have HRQ := Lib.hid (fun (wx : World) (hx : Fr w4.heap.size [] w4 wx) => ((Reads.of_own HO.out).fr hx (Nat.le_refl _) (by simp) : Reads wx w4.heap.size 3 A' m (cellsR Q)))
      obtain ⟨X0, hX0⟩ : ∃ X0 : GS, X0 = ⟨normL (fstN M), fun _ => c0, []⟩ := ⟨_, rfl⟩
      obtain ⟨hme, hmr⟩ := moves_same HRG.out HI1.out (fun _ => c0)
      rw [← hQ, ← hX0] at hme hmr
      have HFW := Lib.hid (show (segsG [([], Q)] X0).2.out.length ≤ 6000000000 by refine Nat.le_trans (recs_few (by rw [hX0]; exact TOk.zero) (by rw [hX0])) ?_; have h1 := HMK.out; omega)
      have HSA := Lib.hid (by
        have h1 := segs_any A Az c cz w.heap.size n k M Z w4 (HM.out w4 F4.out) F4.out.size HSM.out hn20 (HZ.out w4 F4.out) HSG.out hz5
        rw [← hX0] at h1
        exact h1.mono fun e w' h => segs_uni h : Calls Tryz.prog 18 #[.slice A n c, .slice Az k cz] w4 (SegsU (segsG (bare Z) X0) w4))
      have HSB := Lib.hid (fun (wx : World) (hx : Fr w4.heap.size [] w4 wx) => (by
        have fb := (Fr.refl wx.heap.size [] wx).alloc (Nat.le_refl _) (.cells #[.slice none 0 0, .slice A' m c'] 28)
        have BS := Blk.new wx 28 #[.slice none 0 0, .slice A' m c']
        have FB4 := hx.trans (fb.mono (B' := w4.heap.size) (L' := []) hx.size (by simp))
        have FB := F4.out.trans (FB4.mono (B' := w.heap.size) (L' := []) F4.out.size (by simp))
        have h1 := segs_any A (some ⟨wx.heap.size, 0, none⟩) c 1 (wx.alloc (.cells #[.slice none 0 0, .slice A' m c'] 28)).heap.size n 1 M [⟨[], Q, .slice none 0 0, .slice A' m c'⟩] _ ((HM.out _ FB).more FB.size) (Nat.le_refl _) HSM.out hn20 (sgs_one BS HMK.out (HRQ.out _ FB4) FB4.size) (by intro z hz; rw [List.mem_singleton] at hz; subst hz; exact ⟨(by intro m hm; cases hm), Nat.zero_le _, by simp only; rw [← HMK.out]; exact hm200⟩) (by omega)
        rw [← hX0, show bare [⟨[], Q, .slice none 0 0, .slice A' m c'⟩] = [(([] : List Stp), Q)] from rfl] at h1
        refine h1.mono fun e w' h => ?_
        obtain ⟨Ao2, no2, co2, A2, n2, c2, p2, e1, e2, e3⟩ := segs_uni h
        exact ⟨Ao2, no2, co2, A2, n2, c2, p2, e1, fun h => (e2 h).mono fb.size, fb.trans (e3.mono (B' := wx.heap.size) (L' := []) fb.size (by simp))⟩ : Calls Tryz.prog 18 #[.slice A n c, .slice (some ⟨wx.heap.size, 0, none⟩) 1 1] (wx.alloc (.cells #[.slice none 0 0, .slice A' m c'] 28)) fun e w' => ∃ Ao no co A' n' c' p, e = .returned (.tuple #[.slice Ao no co, .slice A' n' c', .pointer p, .int .i64 (segsG [([], Q)] X0).1]) ∧ ((segsG [([], Q)] X0).1 = 0 → SegsK (segsG [([], Q)] X0).2 wx Ao no co A' n' p w') ∧ Fr wx.heap.size [] wx w'))
      obtain ⟨E, hE⟩ : ∃ E, E = segsG (bare Z) X0 := ⟨_, rfl⟩
      obtain ⟨E2, hE2⟩ : ∃ E, E = segsG [([], Q)] X0 := ⟨_, rfl⟩
      rw [← hE] at hme hmr HSA
      rw [← hE2] at hme hmr HSB HFW
      have HME := Lib.hid hme
      have HMR := Lib.hid hmr
      clear hQ hX0 hE hE2 hme hmr hkn hk hmk h8 HNO HID FQ HO
      go_wp2_with fail
      refine HSA.out.mono ?_
      rintro e w5 ⟨Ao, no, co, A5, n5, c5, p, rfl, hk1, f5⟩
      have HK1 := Lib.hid hk1
      have F5 := Lib.hid f5
      have HB5 := Lib.hid (HSB.out w5 f5)
      clear hk1 f5 HSA HSB
      go_wp2_with fail
      refine HB5.out.mono ?_
      rintro e w6 ⟨Ao2, no2, co2, A6, n6, c6, p2, rfl, hk2, f6⟩
      have HK2 := Lib.hid hk2
      have F6 := Lib.hid f6
      have FW := Lib.hid (F4.out.trans ((F5.out.trans (f6.mono (B' := w4.heap.size) (L' := []) F5.out.size (by simp))).mono (B' := w.heap.size) (L' := []) F4.out.size (by simp)))
      clear hk2 f6 HB5
      rw [← HME.out]
      obtain ⟨ee, hee⟩ : ∃ x, x = E.1 := ⟨_, rfl⟩
      rw [← hee]
      have HEE := Lib.hid hee
      by_cases he0 : ee = 0
      case neg =>
        clear hee
        go_wp2_with fail
        go_ret
        exact ⟨rfl, FW.out.below⟩
      case pos =>
        have K1 := HK1.out (by rw [← hee]; exact he0)
        have K2 := HK2.out (by rw [← HME.out, ← hee]; exact he0)
        obtain ⟨hTT, hOO⟩ := HMR.out (by rw [← hee]; exact he0)
        subst he0
        clear hee HEE HK1 HK2 HMR HME
        obtain ⟨⟨M1, gt, gm, hp1, hnd1, hf1, hs1, hct1, hgt1, hgm1⟩, ho1, hok1⟩ := K1
        obtain ⟨⟨M2, gt2, gm2, hp2, hnd2, hf2, hs2, hct2, hgt2, hgm2⟩, ho2, hok2⟩ := K2
        subst hp1
        subst hp2
        rw [← hOO] at HFW ho2
        rw [← hTT] at hct2
        have e1 := lnlen ho1
        have e2 := lnlen ho2
        have e12 : no2 = no := by rw [e1, e2]
        subst e12
        have hfew : no2 ≤ 6000000000 := by
          rw [e1]
          exact HFW.out
        have ho1w := ownsRow_fr ho1 F6.out (fun q hq => ⟨(ho1.lt q hq).2, by simp⟩)
        have HRA := Lib.hid (fun (wx : World) (hx : Fr w6.heap.size [] w6 wx) => ((Reads.of_own ho1w).fr hx (Nat.le_refl _) (by simp) : Reads wx w6.heap.size 5 Ao no2 (cellsLn E.2.out)))
        have HRB := Lib.hid (fun (wx : World) (hx : Fr w6.heap.size [] w6 wx) => ((Reads.of_own ho2).fr hx (Nat.le_refl _) (by simp) : Reads wx w6.heap.size 5 Ao2 no2 (cellsLn E.2.out)))
        have hct1w := hct1.keep F6.out
        have HCA := Lib.hid (fun (wx : World) (hx : Fr w6.heap.size [] w6 wx) => call_any gt gm E.2.T hok1 wx (hct1w.fr hx hct1w.bk.lt (by simp) hct1w.mp.lt (by simp)))
        have HCB := Lib.hid (fun (wx : World) (hx : Fr w6.heap.size [] w6 wx) => call_any gt2 gm2 E.2.T hok1 wx (hct2.fr hx hct2.bk.lt (by simp) hct2.mp.lt (by simp)))
        have HL1 := Lib.hid (lines_yes (c1 := co) (c2 := co2) e1 (HRA.out w6 (Fr.refl _ _ _)) (HRB.out w6 (Fr.refl _ _ _)) (by omega))
        have h512 := allT_few E.2.T
        obtain ⟨la, hla⟩ : ∃ l, l = allT E.2.T := ⟨_, rfl⟩
        rw [← hla] at HCA HCB h512
        unfold EntsOut at HCA HCB
        clear ho1 ho2 hct1 hct2 hnd1 hnd2 hf1 hf2 hs1 hs2 hok1 hok2 ho1w hct1w e1 e2 hla hTT hOO
        go_wp2_with fail
        refine HL1.out.mono ?_
        rintro e w7 ⟨rfl, f7⟩
        have F7 := Lib.hid f7
        have HC5 := Lib.hid (HCA.out w7 f7)
        clear f7 HL1
        go_wp2_with fail
        refine HC5.out.mono ?_
        rintro e w8 ⟨Aa, ca, rfl, ra, _, _, f8⟩
        have F8 := Lib.hid (F7.out.trans (f8.mono (B' := w6.heap.size) (L' := []) F7.out.size (by simp)))
        have RA := Lib.hid ra
        have HC6 := Lib.hid (HCB.out w8 F8.out)
        clear f8 ra HC5 F7
        go_wp2_with fail
        refine HC6.out.mono ?_
        rintro e w9 ⟨Ab, cb, rfl, rb', _, _, f9⟩
        have F9 := Lib.hid (F8.out.trans (f9.mono (B' := w6.heap.size) (L' := []) F8.out.size (by simp)))
        have HSY := Lib.hid (same_yes (c1 := ca) (c2 := cb) (RA.out.fr f9 (Nat.le_refl _) (by simp)) rb' (by omega))
        clear f9 rb' HC6 F8 RA
        go_wp2_with fail
        refine HSY.out.mono ?_
        rintro e w10 ⟨rfl, f10⟩
        have FZ := Lib.hid (FW.out.trans ((F9.out.trans (f10.mono (B' := w6.heap.size) (L' := []) F9.out.size (by simp))).mono (B' := w.heap.size) (L' := []) FW.out.size (by simp)))
        clear f10
        go_wp2_with fail
        go_ret
        exact ⟨rfl, FZ.out.below⟩
end Go.Proofs.YthfibggbipkmfaaGreat
namespace Go.Proofs.YthfibggbipkmfaaGreat
open Go.ChangeShapes Go.WideShapes Go.ChangeAt Go.RowKit Go.Fb
set_option linter.unusedVariables false

set_option maxRecDepth 100000 in
theorem lifted_DenMoves (os : Os) (started : os.Started) (H : Type) (enc : TypeId × Value → H) :
    ReturnsInHanded {} Tryz.checked os 7 .any (Rows.denMovesSpec.pre6 enc Tryz.prog Tryz.f7 Rows.denMovesRow.domain false) (Rows.denMovesSpec.post enc Tryz.prog Tryz.f7 false true false false) := by
  refine returnsInHanded_of_change (C := Tryz.checked) (show ownKnob Tryz.prog.godebug = none by kernel_rfl) started (by kernel_rfl) Tryz.func7
    (ChangeSpec.witness6 (enc := enc) (C := Tryz.checked) false ⟨#[], #[.slice none 0 0, .slice none 0 0], []⟩ 8 (by kernel_rfl) (by kernel_rfl) (by kernel_rfl) (by kernel_rfl)) ?_
  intro W base args ds gs before hval0 hW hcnd _
  have hval : ∀ (j : Nat) t v, Tryz.f7.params[j]? = some t → args[j]? = some v → Value.okWide Tryz.prog W .any base t v := hval0
  have hW' := hW
  obtain ⟨p, q, hA0, hV, rfl, hfz, hnd⟩ := hW
  have hA : DataW.TrodAll enc Tryz.prog W 0 (fun _ => true) true Tryz.f7.params.toList args.toList ds p := hA0
  rw [Tryz.params7] at hA hval
  obtain ⟨v0, vs0, d0, ds0, p0, q0, hargs, rfl, rfl, h0, r0'⟩ := trodAll_cons hA
  obtain ⟨v1, vs1, d1, ds1, p1, q1, rfl, rfl, rfl, h1, r1'⟩ := trodAll_cons r0'
  obtain ⟨rfl, rfl, rfl⟩ := trodAll_nil r1'
  obtain rfl : args = #[v0, v1] := by cases args; simp_all
  obtain ⟨rfl, rfl⟩ := trodVars_none hV
  have k0 := h0
  have lt0 : ∀ x ∈ p0, x.block < W.heap.size := by obtain ⟨m, hm⟩ := k0; exact DataW.trod_lt m _ _ _ hm
  have k1 := h1
  have lt1 : ∀ x ∈ p1, x.block < W.heap.size := by obtain ⟨m, hm⟩ := k1; exact DataW.trod_lt m _ _ _ hm
  obtain ⟨A0, n0, c0, M0, rfl, l0, m0, r0, wf0⟩ := arg_nodes (hval 0 22 v0 rfl rfl) h0
  obtain ⟨A1, n1, c1, Z1, rfl, g1, m1, r1, w1⟩ := arg_segs (hval 1 29 v1 rfl rfl) h1
  clear hA0 hval0
  refine (walk_DenMoves A0 n0 c0 M0 (Nat.le_trans l0 m0) A1 n1 c1 Z1 w1 W r0 r1).mono fun e W' ⟨he, bel⟩ => ?_
  subst he
  exact ⟨_, rfl, _, _, _, [], _, [], hW', trodAll_mk1 (shut_bool Tryz.underlying4 _), (trodAll_cons_mk (Below.trod (show laidOutB Tryz.prog = true by kernel_rfl) (by kernel_rfl) (of_decide_eq_true (by kernel_rfl)) k0 bel lt0) (trodAll_cons_mk (Below.trod (show laidOutB Tryz.prog = true by kernel_rfl) (by kernel_rfl) (of_decide_eq_true (by kernel_rfl)) k1 bel lt1) trodAll_mk0)), rfl, bel.frame _, fun h => by cases h⟩

theorem DenMoves_holds : Rows.DenMovesSaid :=
  OpenClaim.holds_of_wide 7 Tryz.f7 rfl rfl rfl rfl rfl rfl rfl ⟨rfl, rfl, rfl, rfl, rfl⟩ rfl rfl rfl rfl rfl (by kernel_rfl) Tryz.func7 jf_DenMoves
    (of_decide_eq_true (by kernel_rfl)) (by unfold Func.isWrapper; first | (rw [if_pos (by decide +kernel)]; kernel_rfl) | (rw [if_neg (by decide +kernel)]; exact ⟨rfl, rfl⟩))
    (fun os started H enc _ => lifted_DenMoves os started H enc)
#print axioms DenMoves_holds
end Go.Proofs.YthfibggbipkmfaaGreat
