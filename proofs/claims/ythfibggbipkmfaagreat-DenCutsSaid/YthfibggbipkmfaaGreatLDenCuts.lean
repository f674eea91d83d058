/- forebaylaw12.DenCuts: for every input the call returns true, and each argument reads behind it as it read before. The walk lies in the text that this one imports; here it is lifted to the given row. -/
import Derived.Test.YthfibggbipkmfaaGreatDX24
import Derived.Test.YthfibggbipkmfaaGreatDenCutsJf
import Derived.Test.YthfibggbipkmfaaGreatDX7
import Derived.Test.YthfibggbipkmfaaGreatDX18
namespace Go.Proofs.YthfibggbipkmfaaGreat
open Go.RowKit Go.Fb
set_option linter.unusedVariables false
set_option maxRecDepth 100000 in
set_option maxHeartbeats 16000000 in
theorem walk_DenCuts (A : Option Addr) (n c : Nat) (M : List Ndm) (hn : n ≤ maxLen) (hnc : n ≤ c) (Ar : Option Addr) (nr cr : Nat) (R : List (Nat → Int)) (hl : nr = R.length) (hm : nr ≤ maxLen) (hcr : nr ≤ cr) (cut : Int) (hcut : 0 ≤ cut ∧ cut ≤ 255) (w : World) (h : Nds w w.heap.size A n M) (hr : Reads w w.heap.size 3 Ar nr (cellsR R)) :
    Calls Tryz.prog 8 #[.slice A n c, .slice Ar nr cr, .int .u8 cut] w fun e w' => e = .returned (.bool true) ∧ Below w.heap.size w w' := by
  have HM := Lib.hid (fun (wx : World) (hx : Fr w.heap.size [] w wx) => (h.frw hx (Nat.le_refl _) (by simp) : Nds wx w.heap.size A n M))
  have HRD := Lib.hid (fun (wx : World) (hx : Fr w.heap.size [] w wx) => (hr.fr hx (Nat.le_refl _) (by simp) : Reads wx w.heap.size 3 Ar nr (cellsR R)))
  have HL := Lib.hid hl
  have HAW := Lib.hid (awake12_any w)
  clear h hr hl
  go_enter Tryz.func8, Tryz.ntmps8
  go_wp2_with fail
  refine HAW.out.mono ?_
  rintro e w1 ⟨rfl, f1⟩
  have fa := (Fr.refl w1.heap.size [] w1).alloc (Nat.le_refl _) (.cells #[.slice none 0 0, .slice Ar nr cr] 28)
  have BS := Blk.new w1 28 #[.slice none 0 0, .slice Ar nr cr]
  have F1 := Lib.hid f1
  have FA := Lib.hid (f1.trans (fa.mono (B' := w.heap.size) (L' := []) f1.size (by simp)))
  have HGR := Lib.hid (great12_any A (some ⟨w1.heap.size, 0, none⟩) c 1 (w1.alloc (.cells #[.slice none 0 0, .slice Ar nr cr] 28)).heap.size n 1 M [⟨[], R, .slice none 0 0, .slice Ar nr cr⟩] _ ((HM.out _ FA.out).more FA.out.size) (Nat.le_refl _) hn (sgs_one BS HL.out (HRD.out _ FA.out) FA.out.size) (by intro z hz; rw [List.mem_singleton] at hz; subst hz; exact ⟨Nat.zero_le _, by simp only; rw [← HL.out]; exact hm⟩))
  clear f1 fa BS HAW
  go_wp2_with fail
  refine HGR.out.mono ?_
  rintro e w2 ⟨⟨g, rfl, hg⟩, f2⟩
  have F2 := Lib.hid (FA.out.trans (f2.mono (B' := w.heap.size) (L' := []) FA.out.size (by simp)))
  have HG := Lib.hid hg
  clear f2 hg HGR FA F1
  cases g with
  | true =>
    go_wp2_with fail
    go_ret
    exact ⟨rfl, F2.out.below⟩
  | false => ?_
  have hgi := HG.out rfl
  obtain ⟨hsm, hsg, hM20⟩ := hgi.small
  have hr40 : nr ≤ 40 := by rw [HL.out]; exact (hgi.2.2 ⟨[], R, .slice none 0 0, .slice Ar nr cr⟩ (by simp)).2
  have hn20 : n ≤ 20 := by rw [(HM.out w2 F2.out).num]; exact hM20
  have HSM := Lib.hid hsm
  obtain ⟨k, hk⟩ : ∃ k : Nat, k = cut.toNat % (nr + 1) := ⟨_, rfl⟩
  have hkn : k ≤ nr := by rw [hk]; have := Nat.mod_lt cut.toNat (show 0 < nr + 1 by omega); omega
  have htm : cut.tmod ((nr : Int) + 1) = (k : Int) := by
    have e1 : ((cut.toNat % (nr + 1) : Nat) : Int) = (cut.toNat : Int) % ((nr + 1 : Nat) : Int) := Int.natCast_emod _ _
    rw [hk, Int.tmod_eq_emod_of_nonneg hcut.1, e1, Int.toNat_of_nonneg hcut.1]
    rfl
  clear hgi hsm hsg hM20 HG hk hn hm
  go_upto_region 6 with fail
  obtain ⟨X0, hX0⟩ : ∃ X0 : GS, X0 = ⟨normL (fstN M), fun _ => c0, []⟩ := ⟨_, rfl⟩
  obtain ⟨E, hE, hE1, hE2⟩ := recs_cut X0 (R.take k) (R.drop k)
  rw [List.take_append_drop] at hE
  have HE1 := Lib.hid hE1
  have HE2 := Lib.hid hE2
  have HFW := Lib.hid (show E.2.out.length ≤ 1073741000 by rw [← hE]; refine Nat.le_trans (recs_few (by rw [hX0]; exact TOk.zero) (by rw [hX0])) ?_; have h1 := HL.out; omega)
  have fb := (Fr.refl w2.heap.size [] w2).alloc (Nat.le_refl _) (.cells #[.slice none 0 0, .slice Ar nr cr] 28)
  have BS := Blk.new w2 28 #[.slice none 0 0, .slice Ar nr cr]
  have FB := Lib.hid (F2.out.trans (fb.mono (B' := w.heap.size) (L' := []) F2.out.size (by simp)))
  have HSA := Lib.hid (by
    have h1 := segs_any A (some ⟨w2.heap.size, 0, none⟩) c 1 (w2.alloc (.cells #[.slice none 0 0, .slice Ar nr cr] 28)).heap.size n 1 M [⟨[], R, .slice none 0 0, .slice Ar nr cr⟩] _ ((HM.out _ FB.out).more FB.out.size) (Nat.le_refl _) HSM.out hn20 (sgs_one BS HL.out (HRD.out _ FB.out) FB.out.size) (by intro z hz; rw [List.mem_singleton] at hz; subst hz; exact ⟨(by intro m hm; cases hm), Nat.zero_le _, by simp only; rw [← HL.out]; omega⟩) (by omega)
    rw [← hX0, show bare [⟨[], R, .slice none 0 0, .slice Ar nr cr⟩] = [(([] : List Stp), R)] from rfl, hE] at h1
    exact h1.mono fun e w' h => segs_uni h : Calls Tryz.prog 18 #[.slice A n c, .slice (some ⟨w2.heap.size, 0, none⟩) 1 1] (w2.alloc (.cells #[.slice none 0 0, .slice Ar nr cr] 28)) (SegsU E (w2.alloc (.cells #[.slice none 0 0, .slice Ar nr cr] 28))))
  have HX0 := Lib.hid hX0
  clear hE hE1 hE2 fb BS hX0
  go_wp2_with fail
  refine HSA.out.mono ?_
  rintro e w3 ⟨Ao, no, co, A', n', c', p, rfl, hk1, f3⟩
  have HK1 := Lib.hid hk1
  have F3 := Lib.hid (FB.out.trans (f3.mono (B' := w.heap.size) (L' := []) FB.out.size (by simp)))
  have HW3 := Lib.hid (show w.heap.size ≤ (w2.alloc (.cells #[.slice none 0 0, .slice Ar nr cr] 28)).heap.size from FB.out.size)
  generalize w2.alloc (.cells #[.slice none 0 0, .slice Ar nr cr] 28) = wb at *
  clear hk1 f3 HSA FB F2
  go_upto_region 7 with fail
  have hk0 : (0 : Int) ≤ (k : Int) := by omega
  have hkr : (k : Int) ≤ (nr : Int) := by omega
  have hkc : (k : Int) ≤ (cr : Int) := by omega
  have hrc : (nr : Int) ≤ (cr : Int) := by omega
  have hfrm := fun (wx : World) (hx : Fr w.heap.size [] w wx) => (rreads_from (HRD.out wx hx) HL.out hkn hcr : Reads wx w.heap.size 3 (if cr = k then Ar else Option.map (fun x => x.add (k * 3)) Ar) (nr - k) (cellsR (R.drop k)))
  obtain ⟨rb, hrb⟩ : ∃ r, r = segsG [([], R.take k), ([], R.drop k)] X0 := ⟨_, rfl⟩
  have HSBG := Lib.hid (fun (A9 : Option Addr) (c9 : Nat) (h9 : (if cr = k then Ar else Option.map (fun x => x.add (k * 3)) Ar) = A9) => (by
    have OB := (Fr.refl w3.heap.size [] w3).alloc (Nat.le_refl _) (.cells #[.slice none 0 0, .slice Ar k cr, .slice none 0 0, .slice A9 (nr - k) c9] 28) |>.drew
    have BT := (Blk.new w3 28 #[.slice none 0 0, .slice Ar k cr, .slice none 0 0, .slice A9 (nr - k) c9]).drew
    have FC := F3.out.trans (OB.mono (B' := w.heap.size) (L' := []) F3.out.size (by simp))
    have h1 := segs_any A (some ⟨w3.heap.size, 0, none⟩) c 2 (w3.alloc (.cells #[.slice none 0 0, .slice Ar k cr, .slice none 0 0, .slice A9 (nr - k) c9] 28)).drew.heap.size n 2 M [⟨[], R.take k, .slice none 0 0, .slice Ar k cr⟩, ⟨[], R.drop k, .slice none 0 0, .slice A9 (nr - k) c9⟩] _ ((HM.out _ FC).more FC.size) (Nat.le_refl _) HSM.out hn20 (sgs_two BT (by rw [List.length_take, ← HL.out]; omega) (by rw [List.length_drop, ← HL.out]) (rreads_pre (HRD.out _ FC) HL.out hkn) (by have h2 := hfrm _ FC; rw [h9] at h2; exact h2) FC.size) (by
      intro z hz
      rcases List.mem_cons.1 hz with e | hz
      · subst e
        exact ⟨(by intro m hm; cases hm), Nat.zero_le _, by simp only; rw [List.length_take]; omega⟩
      · rw [List.mem_singleton] at hz
        subst hz
        exact ⟨(by intro m hm; cases hm), Nat.zero_le _, by simp only; rw [List.length_drop, ← HL.out]; omega⟩) (by omega)
    rw [← HX0.out, show bare [⟨[], R.take k, .slice none 0 0, .slice Ar k cr⟩, ⟨[], R.drop k, .slice none 0 0, .slice A9 (nr - k) c9⟩] = [(([] : List Stp), R.take k), ([], R.drop k)] from rfl, ← hrb] at h1
    refine h1.mono fun e w' h => ?_
    obtain ⟨Ao2, no2, co2, A2, n2, c2, p2, e1, e2, e3⟩ := segs_uni h
    exact ⟨Ao2, no2, co2, A2, n2, c2, p2, e1, fun h => (e2 h).mono OB.size, OB.trans (e3.mono (B' := w3.heap.size) (L' := []) OB.size (by simp))⟩ : Calls Tryz.prog 18 #[.slice A n c, .slice (some ⟨w3.heap.size, 0, none⟩) 2 2] (w3.alloc (.cells #[.slice none 0 0, .slice Ar k cr, .slice none 0 0, .slice A9 (nr - k) c9] 28)).drew fun e w' => ∃ Ao no co A' n' c' p, e = .returned (.tuple #[.slice Ao no co, .slice A' n' c', .pointer p, .int .i64 rb.1]) ∧ (rb.1 = 0 → SegsK rb.2 w3 Ao no co A' n' p w') ∧ Fr w3.heap.size [] w3 w'))
  rw [← hrb] at HE1 HE2
  clear hrb hfrm
  by_cases hck : cr = k
  case' pos =>
    have HSB := Lib.hid (HSBG.out Ar 0 (if_pos hck))
    have h00 : nr - k = 0 := by omega
    rw [h00] at HSB
    have hck' : k = cr := hck.symm
    clear h00
    clear HSBG hck
    subst hck'
  case' neg =>
    have HSB := Lib.hid (HSBG.out (Option.map (fun x => x.add (k * 3)) Ar) (cr - k) (if_neg hck))
    clear HSBG
  all_goals
    go_cut [12, 13, 14, 15] (fun s12 s13 s14 s15 wx => ∃ Ao2 no2 co2 A2 n2 c2 p2, s12 = .slice Ao2 no2 co2 ∧ s13 = .slice A2 n2 c2 ∧ s14 = .pointer p2 ∧ s15 = .int .i64 rb.1 ∧ RowKit.Hid (rb.1 = 0 → SegsK rb.2 w3 Ao2 no2 co2 A2 n2 p2 wx) ∧ RowKit.Hid (Fr w3.heap.size [] w3 wx))
    case first =>
      go_region_held3 (fun _ => True) (trivial)
        (first
          | (go_at_call 18; refine HSB.out.mono ?_; rintro e w4 ⟨Ao2, no2, co2, A2, n2, c2, p2, rfl, hk2, f4⟩; have HK2 := Lib.hid hk2; have F4 := Lib.hid f4; clear hk2 f4))
      all_goals
        go_wp2_with fail
        go_meet
        exact ⟨Ao2, no2, co2, A2, n2, c2, p2, rfl, rfl, rfl, rfl, HK2, F4⟩
    case rest =>
      obtain ⟨Ao2, no2, co2, A2, n2, c2, p2, rfl, rfl, rfl, rfl, HK2, F4⟩ := hcut
      rw [HE1.out]
      obtain ⟨ee, hee⟩ : ∃ x, x = E.1 := ⟨_, rfl⟩
      rw [← hee]
      have HEE := Lib.hid hee
      have FW := Lib.hid (F3.out.trans (F4.out.mono (B' := w.heap.size) (L' := []) F3.out.size (by simp)))
      by_cases he0 : ee = 0
      · have K1 := HK1.out (by rw [← hee]; exact he0)
        have K2 := HK2.out (by rw [HE1.out, ← hee]; exact he0)
        rw [HE2.out (by rw [← hee]; exact he0)] at K2
        subst he0
        clear hee HEE
        obtain ⟨⟨M1, gt, gm, hp1, hnd1, hf1, hs1, hct1, hgt1, hgm1⟩, ho1, hok1⟩ := K1
        obtain ⟨⟨M2, gt2, gm2, hp2, hnd2, hf2, hs2, hct2, hgt2, hgm2⟩, ho2, hok2⟩ := K2
        subst hp1
        subst hp2
        have e1 := lnlen ho1
        have e2 := lnlen ho2
        have e12 : no2 = no := by rw [e1, e2]
        subst e12
        have hfew : no2 ≤ 1073741000 := by
          rw [e1]
          exact HFW.out
        have ho1w := ownsRow_fr ho1 F4.out (fun q hq => ⟨(ho1.lt q hq).2, by simp⟩)
        have HRA := Lib.hid (fun (wx : World) (hx : Fr wc.heap.size [] wc wx) => ((Reads.of_own ho1w).fr hx (Nat.le_refl _) (by simp) : Reads wx wc.heap.size 5 Ao no2 (cellsLn E.2.out)))
        have HRB := Lib.hid (fun (wx : World) (hx : Fr wc.heap.size [] wc wx) => ((Reads.of_own ho2).fr hx (Nat.le_refl _) (by simp) : Reads wx wc.heap.size 5 Ao2 no2 (cellsLn E.2.out)))
        have hct1w := hct1.keep F4.out
        have HCA := Lib.hid (fun (wx : World) (hx : Fr wc.heap.size [] wc wx) => call_any gt gm E.2.T hok1 wx (hct1w.fr hx hct1w.bk.lt (by simp) hct1w.mp.lt (by simp)))
        have HCB := Lib.hid (fun (wx : World) (hx : Fr wc.heap.size [] wc wx) => call_any gt2 gm2 E.2.T hok1 wx (hct2.fr hx hct2.bk.lt (by simp) hct2.mp.lt (by simp)))
        have hco2 := ownsRow_cap ho2
        have HE1' := Lib.hid e1
        have HL1 := Lib.hid (lines_yes (c1 := co) (c2 := co2) e1 (HRA.out wc (Fr.refl _ _ _)) (HRB.out wc (Fr.refl _ _ _)) (by omega))
        have h512 := allT_few E.2.T
        obtain ⟨la, hla⟩ : ∃ l, l = allT E.2.T := ⟨_, rfl⟩
        rw [← hla] at HCA HCB h512
        unfold EntsOut at HCA HCB
        clear ho1 ho2 hct1 hct2 hnd1 hnd2 hf1 hf2 hs1 hs2 hok1 hok2 ho1w hct1w e1 e2 hla HK1 HK2
        go_wp2_with fail
        refine HL1.out.mono ?_
        rintro e w5 ⟨rfl, f5⟩
        have F5 := Lib.hid f5
        have HC5 := Lib.hid (HCA.out w5 f5)
        clear f5 HL1
        go_wp2_with fail
        refine HC5.out.mono ?_
        rintro e w6 ⟨Aa, ca, rfl, ra, _, _, f6⟩
        have F6 := Lib.hid (F5.out.trans (f6.mono (B' := wc.heap.size) (L' := []) F5.out.size (by simp)))
        have RA := Lib.hid ra
        have HC6 := Lib.hid (HCB.out w6 F6.out)
        clear f6 ra HC5 F5
        go_wp2_with fail
        refine HC6.out.mono ?_
        rintro e w7 ⟨Ab, cb, rfl, rb', _, _, f7⟩
        have F7 := Lib.hid (F6.out.trans (f7.mono (B' := wc.heap.size) (L' := []) F6.out.size (by simp)))
        have HSY := Lib.hid (same_yes (c1 := ca) (c2 := cb) (RA.out.fr f7 (Nat.le_refl _) (by simp)) rb' (by omega))
        clear f7 rb' HC6 F6 RA
        go_wp2_with fail
        refine HSY.out.mono ?_
        rintro e w8 ⟨rfl, f8⟩
        have F8 := Lib.hid (F7.out.trans (f8.mono (B' := wc.heap.size) (L' := []) F7.out.size (by simp)))
        clear f8 HSY F7
        obtain ⟨m, hmm, hmv⟩ : ∃ m : Nat, m ≤ no2 ∧ ((k ≤ no2 ∧ m = k) ∨ (no2 < k ∧ m = no2)) := by
          rcases Nat.lt_or_ge no2 k with h | h
          · exact ⟨no2, Nat.le_refl _, .inr ⟨h, rfl⟩⟩
          · exact ⟨k, h, .inl ⟨h, rfl⟩⟩
        have HPX := Lib.hid (dprefix_any Ao2 Ao m no2 co2 co wc.heap.size (E.2.out.take m) E.2.out w8 (by rw [List.length_take, ← HE1'.out]; omega) HE1'.out (by omega) hfew (by have h := HRB.out w8 F8.out; rw [HE1'.out] at h hmm; exact lreads_pre h hmm) (HRA.out w8 F8.out) F8.out.size)
        rw [prefB_take] at HPX
        have F9 := Lib.hid (FW.out.trans (F8.out.mono (B' := w.heap.size) (L' := []) FW.out.size (by simp)))
        have hm2 : (m : Int) ≤ (co2 : Int) := by omega
        have HMN := Lib.hid (show (min (k : Int) (no2 : Int)).toNat = m by omega)
        clear hmv
        go_wp2_with fail
        rw [HMN.out]
        refine HPX.out.mono ?_
        rintro e w9 ⟨rfl, f9⟩
        have FZ := Lib.hid (F9.out.trans (f9.mono (B' := w.heap.size) (L' := []) F9.out.size (by simp)))
        clear f9
        go_wp2_with fail
        go_ret
        exact ⟨rfl, FZ.out.below⟩
      · clear hee
        go_wp2_with fail
        go_ret
        exact ⟨rfl, FW.out.below⟩
end Go.Proofs.YthfibggbipkmfaaGreat
namespace Go.Proofs.YthfibggbipkmfaaGreat
open Go.ChangeShapes Go.WideShapes Go.ChangeAt Go.RowKit Go.Fb
set_option linter.unusedVariables false

theorem u8_in {x : Int} (h : (Lit.int .u8 x).wf = true) : 0 ≤ x ∧ x ≤ 255 := by
  have h2 : (decide ((IntKind.u8).min ≤ x) && decide (x ≤ (IntKind.u8).max)) = true := h
  rw [Bool.and_eq_true, decide_eq_true_eq, decide_eq_true_eq] at h2
  exact h2
set_option maxRecDepth 100000 in
theorem lifted_DenCuts (os : Os) (started : os.Started) (H : Type) (enc : TypeId × Value → H) :
    ReturnsInHanded {} Tryz.checked os 8 .any (Rows.denCutsSpec.pre6 enc Tryz.prog Tryz.f8 Rows.denCutsRow.domain false) (Rows.denCutsSpec.post enc Tryz.prog Tryz.f8 false true false false) := by
  refine returnsInHanded_of_change (C := Tryz.checked) (show ownKnob Tryz.prog.godebug = none by kernel_rfl) started (by kernel_rfl) Tryz.func8
    (ChangeSpec.witness6 (enc := enc) (C := Tryz.checked) false ⟨#[], #[.slice none 0 0, .slice none 0 0, .int .u8 0], []⟩ 8 (by kernel_rfl) (by kernel_rfl) (by kernel_rfl) (by kernel_rfl)) ?_
  intro W base args ds gs before hval0 hW hcnd _
  have hval : ∀ (j : Nat) t v, Tryz.f8.params[j]? = some t → args[j]? = some v → Value.okWide Tryz.prog W .any base t v := hval0
  have hW' := hW
  obtain ⟨p, q, hA0, hV, rfl, hfz, hnd⟩ := hW
  have hA : DataW.TrodAll enc Tryz.prog W 0 (fun _ => true) true Tryz.f8.params.toList args.toList ds p := hA0
  rw [Tryz.params8] at hA hval
  obtain ⟨v0, vs0, d0, ds0, p0, q0, hargs, rfl, rfl, h0, r0'⟩ := trodAll_cons hA
  obtain ⟨v1, vs1, d1, ds1, p1, q1, rfl, rfl, rfl, h1, r1'⟩ := trodAll_cons r0'
  obtain ⟨v2, vs2, d2, ds2, p2, q2, rfl, rfl, rfl, h2, r2'⟩ := trodAll_cons r1'
  obtain ⟨rfl, rfl, rfl⟩ := trodAll_nil r2'
  obtain rfl : args = #[v0, v1, v2] := by cases args; simp_all
  obtain ⟨rfl, rfl⟩ := trodVars_none hV
  have k0 := h0
  have lt0 : ∀ x ∈ p0, x.block < W.heap.size := by obtain ⟨m, hm⟩ := k0; exact DataW.trod_lt m _ _ _ hm
  have k1 := h1
  have lt1 : ∀ x ∈ p1, x.block < W.heap.size := by obtain ⟨m, hm⟩ := k1; exact DataW.trod_lt m _ _ _ hm
  have k2 := h2
  have lt2 : ∀ x ∈ p2, x.block < W.heap.size := by obtain ⟨m, hm⟩ := k2; exact DataW.trod_lt m _ _ _ hm
  obtain ⟨A0, n0, c0, M0, rfl, l0, m0, r0, wf0⟩ := arg_nodes (hval 0 22 v0 rfl rfl) h0
  obtain ⟨A1, c1, e1, rfl, g1, m1, r1⟩ := arg_recs (hval 1 23 v1 rfl rfl) h1
  obtain ⟨x2, rfl, w2⟩ := arg_int Tryz.underlying5 (hval 2 5 v2 rfl rfl) h2
  clear hA0 hval0
  refine (walk_DenCuts A0 n0 c0 M0 (Nat.le_trans l0 m0) l0 A1 e1.length c1 e1 rfl (Nat.le_trans g1 m1) g1 x2 (u8_in w2) W r0 r1).mono fun e W' ⟨he, bel⟩ => ?_
  subst he
  exact ⟨_, rfl, _, _, _, [], _, [], hW', trodAll_mk1 (shut_bool Tryz.underlying4 _), (trodAll_cons_mk (Below.trod (show laidOutB Tryz.prog = true by kernel_rfl) (by kernel_rfl) (of_decide_eq_true (by kernel_rfl)) k0 bel lt0) (trodAll_cons_mk (Below.trod (show laidOutB Tryz.prog = true by kernel_rfl) (by kernel_rfl) (of_decide_eq_true (by kernel_rfl)) k1 bel lt1) (trodAll_cons_mk (Below.trod (show laidOutB Tryz.prog = true by kernel_rfl) (by kernel_rfl) (of_decide_eq_true (by kernel_rfl)) k2 bel lt2) trodAll_mk0))), rfl, bel.frame _, fun h => by cases h⟩

theorem DenCuts_holds : Rows.DenCutsSaid :=
  OpenClaim.holds_of_wide 8 Tryz.f8 rfl rfl rfl rfl rfl rfl rfl ⟨rfl, rfl, rfl, rfl, rfl⟩ rfl rfl rfl rfl rfl (by kernel_rfl) Tryz.func8 jf_DenCuts
    (of_decide_eq_true (by kernel_rfl)) (by unfold Func.isWrapper; first | (rw [if_pos (by decide +kernel)]; kernel_rfl) | (rw [if_neg (by decide +kernel)]; exact ⟨rfl, rfl⟩))
    (fun os started H enc _ => lifted_DenCuts os started H enc)
#print axioms DenCuts_holds
end Go.Proofs.YthfibggbipkmfaaGreat
