/- The walk of GraphOrders. -/
import Derived.Test.YtjekpfcniamodaaGAwake
import Derived.Test.YtjekpfcniamodaaGrS
import Derived.Test.YtjekpfcniamodaaArrEq
import Derived.Test.YtjekpfcniamodaaGraphGrows
import Derived.Deep.RegionHeld3
import Derived.Deep.DeepCutAuto
import Derived.BigRegion
namespace Go.Proofs.Ytjekpfcniamodaa
open Go.RowKit Go.Fb
theorem neq8_self (r : Nat → Int) (w : World) : (binOp .neq 29 (A8 r) (A8 r)).run Try.prog w = .ok (.bool false) w := by
  simp only [binOp, Op.equal, Op.maxDepth, Sem.run_bind, eq8_self, Result.andThen_ok]
  rfl
/-- The cells of the graph that lets all pass which GraphOrders looks at. -/
def PasC (g : Nat) (p : Int) (r : Nat → Int) (w : World) : Prop :=
  w.cell? ⟨g, 17, none⟩ = some (.int .i64 p) ∧ w.cell? ⟨g, 5, none⟩ = some (.int .i64 (r 0)) ∧ w.cell? ⟨g, 6, none⟩ = some (.int .i64 (r 1)) ∧ w.cell? ⟨g, 7, none⟩ = some (.int .i64 (r 2)) ∧ w.cell? ⟨g, 8, none⟩ = some (.int .i64 (r 3)) ∧ w.cell? ⟨g, 9, none⟩ = some (.int .i64 (r 4)) ∧ w.cell? ⟨g, 10, none⟩ = some (.int .i64 (r 5)) ∧ w.cell? ⟨g, 11, none⟩ = some (.int .i64 (r 6)) ∧ w.cell? ⟨g, 12, none⟩ = some (.int .i64 (r 7)) ∧
  w.cell? ⟨g, 18, none⟩ = some (.int .i64 (r 0)) ∧ w.cell? ⟨g, 19, none⟩ = some (.int .i64 (r 1)) ∧ w.cell? ⟨g, 20, none⟩ = some (.int .i64 (r 2)) ∧ w.cell? ⟨g, 21, none⟩ = some (.int .i64 (r 3)) ∧ w.cell? ⟨g, 22, none⟩ = some (.int .i64 (r 4)) ∧ w.cell? ⟨g, 23, none⟩ = some (.int .i64 (r 5)) ∧ w.cell? ⟨g, 24, none⟩ = some (.int .i64 (r 6)) ∧ w.cell? ⟨g, 25, none⟩ = some (.int .i64 (r 7))
theorem PasC.fr {g : Nat} {p : Int} {r : Nat → Int} {w w' : World} (h : PasC g p r w) (hf : Fr w.heap.size [] w w') (hg : g < w.heap.size) : PasC g p r w' := by
  have k : ∀ o, w'.cell? ⟨g, o, none⟩ = w.cell? ⟨g, o, none⟩ := fun o => hf.cell (p := ⟨g, o, none⟩) hg (by simp)
  unfold PasC
  rw [k, k, k, k, k, k, k, k, k, k, k, k, k, k, k, k, k]
  exact h
theorem pass_cells {p : Int} {base g c : Nat} {w : World} {M : List Ndm} (h : Nmd base w (some ⟨g, 0, none⟩) 2 c M) (hf : fstN M = passL p) : PasC g (parP p) (rtk 8 (parP p)) w := by
  match M, hf with
  | [(x, a, b), (y, d, e)], hf =>
    simp only [fstN, passL, List.map_cons, List.map_nil, List.cons.injEq, and_true] at hf
    obtain ⟨rfl, rfl⟩ := hf
    have k0 := fun j u hu => nd_cell h.own (k := 0) rfl j u hu
    have k1 := fun j u hu => nd_cell h.own (k := 1) rfl j u hu
    exact ⟨k1 4 _ rfl, k0 5 _ rfl, k0 6 _ rfl, k0 7 _ rfl, k0 8 _ rfl, k0 9 _ rfl, k0 10 _ rfl, k0 11 _ rfl, k0 12 _ rfl, k1 5 _ rfl, k1 6 _ rfl, k1 7 _ rfl, k1 8 _ rfl, k1 9 _ rfl, k1 10 _ rfl, k1 11 _ rfl, k1 12 _ rfl⟩
set_option maxRecDepth 100000 in
set_option maxHeartbeats 8000000 in
theorem walk_GraphOrders (A : Option Addr) (n c : Nat) (M : List Ndm) (hc : n ≤ c) (hm : c ≤ maxLen) (w : World) (h : Nds w w.heap.size A n M) (par : Int) :
    Calls Try.prog 5 #[.slice A n c, .int .i64 par] w fun e w' => e = .returned (.bool true) ∧ Below w.heap.size w w' := by
  obtain ⟨L, hL⟩ : ∃ L, L = fstN M := ⟨_, rfl⟩
  have HL := Lib.hid hL
  have H := Lib.hid h
  have HG := fun (wx : World) (hx : Fr w.heap.size [] w wx) => great08_any A c w.heap.size n M wx (h.frw hx (Nat.le_refl _) (by simp)) hx.size (by omega)
  obtain ⟨gb, hgb⟩ : ∃ b, b = greatN L := ⟨_, rfl⟩
  rw [← hL, ← hgb] at HG
  have HG := Lib.hid HG
  have HGB := Lib.hid hgb
  have HA := Lib.hid (awake08_any w)
  clear h hL hgb
  go_enter Try.func5, Try.ntmps5
  go_wp2_with fail
  refine HA.out.mono ?_
  rintro e w1 ⟨rfl, f1⟩
  have F1 := Lib.hid f1
  clear f1 HA
  go_wp2_with fail
  refine (HG.out w1 F1.out).mono ?_
  rintro e w2 ⟨rfl, f2⟩
  have F2 := Lib.hid (F1.out.trans (f2.mono (B' := w.heap.size) (L' := []) F1.out.size (by simp)))
  clear f2 HG F1
  cases gb with
  | true =>
    go_wp2_with fail
    go_ret
    exact ⟨rfl, F2.out.below⟩
  | false =>
    obtain ⟨hl20, hs, _⟩ := small_great (by rw [← HL.out]; exact HGB.out.symm : greatN (fstN M) = false)
    have HS := Lib.hid hs
    have hn20 : n ≤ 20 := by rw [H.out.num]; exact hl20
    have HP := Lib.hid (pass_any par w2)
    clear hs hl20 HGB
    go_wp2_with fail
    refine HP.out.mono ?_
    rintro e w3 ⟨Ap, cp, Mp, rfl, hmd, hfp, f3⟩
    have F3 := Lib.hid (F2.out.trans (f3.mono (B' := w.heap.size) (L' := []) F2.out.size (by simp)))
    obtain ⟨g, cap, hv, hbg, hlt⟩ := hmd.own.form (by omega)
    injection hv with hv1 _ hv3
    subst hv1
    subst hv3
    have PC := Lib.hid (pass_cells hmd hfp)
    have HNP := Lib.hid (hmd.nds (Fr.refl w3.heap.size [] w3) (by simp))
    have HCP := Lib.hid (fun (wx : World) (hx : Fr w3.heap.size [] w3 wx) => (by rw [← checkN_zero.2 (pass_right par), ← hfp]; exact gcheck_any (some ⟨g, 0, none⟩) cp w3.heap.size 2 Mp wx (HNP.out.frw hx (Nat.le_refl _) (by simp)) hx.size (small_pass hfp) : Calls Try.prog 16 #[.slice (some ⟨g, 0, none⟩) 2 cp] wx fun e w' => e = .returned (.int .i64 0) ∧ Fr wx.heap.size [] wx w'))
    obtain ⟨pp, hpp⟩ : ∃ p, p = parP par := ⟨_, rfl⟩
    obtain ⟨rr, hrr⟩ : ∃ r, r = rtk 8 (parP par) := ⟨_, rfl⟩
    rw [← hrr, ← hpp] at PC
    have hmm : min (max par 1) 3 = pp := by rw [hpp]; rfl
    have hmne : (pp != min (max par 1) 3) = false := by rw [hmm]; simp
    have hq8 := fun w => neq8_self rr w
    clear hmd hfp f3 hbg hpp hrr HP
    go_upto_region 6 with fail
    go_cut [47] (fun s wx => s = .bool false ∧ RowKit.Hid (Fr w3.heap.size [] w3 wx))
    case first =>
      have INV := Lib.hid ((Fr.refl w3.heap.size [] w3).drew)
      have INVP := Lib.hid (show PasC g pp rr w3.drew from PC.out)
      go_region_held3 (fun w => w.cell? ⟨g, 17, none⟩ = some (.int .i64 pp) ∧ w.cell? ⟨g, 5, none⟩ = some (.int .i64 (rr 0)) ∧ w.cell? ⟨g, 6, none⟩ = some (.int .i64 (rr 1)) ∧ w.cell? ⟨g, 7, none⟩ = some (.int .i64 (rr 2)) ∧ w.cell? ⟨g, 8, none⟩ = some (.int .i64 (rr 3)) ∧ w.cell? ⟨g, 9, none⟩ = some (.int .i64 (rr 4)) ∧ w.cell? ⟨g, 10, none⟩ = some (.int .i64 (rr 5)) ∧ w.cell? ⟨g, 11, none⟩ = some (.int .i64 (rr 6)) ∧ w.cell? ⟨g, 12, none⟩ = some (.int .i64 (rr 7)) ∧ w.cell? ⟨g, 18, none⟩ = some (.int .i64 (rr 0)) ∧ w.cell? ⟨g, 19, none⟩ = some (.int .i64 (rr 1)) ∧ w.cell? ⟨g, 20, none⟩ = some (.int .i64 (rr 2)) ∧ w.cell? ⟨g, 21, none⟩ = some (.int .i64 (rr 3)) ∧ w.cell? ⟨g, 22, none⟩ = some (.int .i64 (rr 4)) ∧ w.cell? ⟨g, 23, none⟩ = some (.int .i64 (rr 5)) ∧ w.cell? ⟨g, 24, none⟩ = some (.int .i64 (rr 6)) ∧ w.cell? ⟨g, 25, none⟩ = some (.int .i64 (rr 7))) (exact INVP.out)
        ((go_at_call 16; refine (HCP.out _ INV.out).mono ?_; rintro e w4 ⟨rfl, f4⟩; have INVP := Lib.hid (INVP.out.fr f4 (Nat.lt_of_lt_of_le hlt INV.out.size)); have INV := Lib.hid (INV.out.trans (f4.mono INV.out.size (by simp))); clear f4))
      all_goals
        go_wp2_with fail
        go_meet
        exact ⟨rfl, INV⟩
    case rest =>
      obtain ⟨rfl, FX⟩ := hcut
      have F4 := Lib.hid (F3.out.trans (FX.out.mono (B' := w.heap.size) (L' := []) F3.out.size (by simp)))
      have HC := gcheck_any A c w.heap.size n M wc (H.out.frw F4.out (Nat.le_refl _) (by simp)) F4.out.size HS.out
      obtain ⟨cv, hcv⟩ : ∃ v, v = checkN L := ⟨_, rfl⟩
      rw [← HL.out, ← hcv] at HC
      have HC := Lib.hid HC
      have HCV := Lib.hid hcv
      clear hcv HCP HNP PC hq8 hmm hmne hlt
      go_wp2_with fail
      refine HC.out.mono ?_
      rintro e w5 ⟨rfl, f5⟩
      have F5 := Lib.hid (F4.out.trans (f5.mono (B' := w.heap.size) (L' := []) F4.out.size (by simp)))
      clear f5 HC F4 FX F3 F2
      by_cases c0 : cv = 0
      case neg =>
        have hb0 : (cv == 0) = false := by simpa using c0
        have hb1 : (cv != 0) = true := by simpa using c0
        go_wp2_with fail
        go_ret
        exact ⟨rfl, F5.out.below⟩
      subst c0
      have hr := checkN_zero.1 HCV.out.symm
      have HR := Lib.hid hr
      have hn8 : n ≤ 8 := by rw [H.out.num]; have := hr.len; rw [HL.out] at this; simpa [fstN] using this
      have HOR := order_any A c w.heap.size n M w5 (H.out.frw F5.out (Nat.le_refl _) (by simp)) F5.out.size HS.out
      obtain ⟨l, hl⟩ : ∃ l, l = sortN L := ⟨_, rfl⟩
      rw [← HL.out, orderN_right hr, ← hl] at HOR
      have HOR := Lib.hid HOR
      have hln : l.length = n := by rw [hl]; have := hr.complete; unfold Complete at this; rw [this, HL.out, H.out.num]; simp [fstN]
      have HLN := Lib.hid hln
      have HLL := Lib.hid hl
      have HSAY := Lib.hid (fun (k : Nat) (id : Int) (hk : l[k]? = some id) => (by rw [hl]; exact order_says hr (by rw [← hl]; exact hk) : ∃ x, findN L id = some x ∧ id ∉ l.take k ∧ ∀ f ∈ x.fr, f ∈ l.take k ∧ id ∈ childN L f ∧ id ∈ belowN L f))
      clear hr HCV hl hln
      go_wp2_with fail
      refine HOR.out.mono ?_
      rintro e w6 ⟨Ao, co, no, hno, rfl, hoo, f6⟩
      have hno2 : no = n := by rw [hno]; exact HLN.out
      subst hno2
      have F6 := Lib.hid (F5.out.trans (f6.mono (B' := w.heap.size) (L' := []) F5.out.size (by simp)))
      have RO := Lib.hid (Reads.of_own hoo)
      clear hno hoo f6 HOR F5
      go_wp2_with fail
      go_loopg [6, 54] no (fun g s6 s54 wr => ∃ (k : Nat) (A' : Option Addr) (c' : Nat), k ≤ no ∧ g = no - k ∧ s54 = .int .i64 k ∧ s6 = .slice A' k c' ∧ RowKit.Hid (wr.ownsRow w6.heap.size 3 1 (.slice A' k c') k ((l.take k).map (Value.int .i64))) ∧ RowKit.Hid (Fr w6.heap.size [] w6 wr))
      case atStart => exact ⟨0, none, 0, Nat.zero_le _, rfl, rfl, rfl, Lib.hid (World.ownsRow_nil _ _ _ _), Lib.hid (Fr.refl _ _ _)⟩
      case round =>
        obtain ⟨k, A', c', hk, rfl, rfl, rfl, HO, FR⟩ := hrel
        have FW := Lib.hid (F6.out.trans (FR.out.mono (B' := w.heap.size) (L' := []) F6.out.size (by simp)))
        by_cases hkn : k < no
        · have hki : (k : Int) < (no : Int) := by omega
          have hk0 : (0 : Int) ≤ (k : Int) := by omega
          obtain ⟨i1, hi1⟩ : ∃ i1, l[k]? = some i1 := ⟨_, List.getElem?_eq_getElem (by rw [HLN.out]; exact hkn)⟩
          obtain ⟨x1, hfx, hnot, hall⟩ := HSAY.out k i1 hi1
          have hrd := RO.out.fr FR.out (Nat.le_refl _) (by simp)
          obtain ⟨b1, o1, u1, rfl, hb1, hu1, hc1⟩ := hrd.one hkn
          rw [List.getElem?_map, hi1] at hu1
          simp at hu1
          subst hu1
          have HI1 := Lib.hid hi1
          have HFI := find_any i1 A c w.heap.size no M wr (H.out.frw FW.out (Nat.le_refl _) (by simp)) FW.out.size HS.out
          rw [show M.map (·.1) = L from HL.out.symm] at HFI
          have HFI := Lib.hid HFI
          have HFX := Lib.hid hfx
          have HNOT := Lib.hid hnot
          have HALL := Lib.hid hall
          clear hi1 hrd hfx hnot hall
          go_wp2_with fail
          refine HFI.out.mono ?_
          rintro e w7 hfo
          obtain ⟨x, sf, sp, hx, rfl, hin, f7⟩ := hfo.get
          have hxx : x = x1 := by rw [hx]; exact getN_some HFX.out
          subst hxx
          rw [HFX.out]
          have HO7 := Lib.hid (ownsRow_fr HO.out f7 (fun q hq => ⟨(HO.out.lt q hq).2, by simp⟩))
          have FR7 := Lib.hid (FR.out.trans (f7.mono (B' := w6.heap.size) (L' := []) FR.out.size (by simp)))
          obtain ⟨⟨Af, cf, hf1, hf2⟩, ⟨Ap, cq, hp1, _⟩⟩ := hin
          simp only at hf1 hp1 hf2
          subst hf1
          subst hp1
          have hsm := getN_small HS.out i1
          rw [← HL.out, ← hx] at hsm
          obtain ⟨nf, hnf⟩ : ∃ z, z = x.fr.length := ⟨_, rfl⟩
          obtain ⟨np, hnp⟩ : ∃ z, z = x.pg.length := ⟨_, rfl⟩
          rw [← hnf] at hf2
          rw [← hnf, ← hnp]
          have HNF := Lib.hid hnf
          have hnf1 : nf ≤ 1000000 := by rw [hnf]; exact hsm.1
          have fa := (Fr.refl w7.heap.size [] w7).alloc (Nat.le_refl _) (.cells (ndA x (.slice Af nf cf) (.slice Ap np cq)) 31)
          have BX := Lib.hid (Blk.new w7 31 (ndA x (.slice Af nf cf) (.slice Ap np cq)))
          have HOa := Lib.hid (ownsRow_fr HO7.out fa (fun q hq => ⟨(HO7.out.lt q hq).2, by simp⟩))
          have FRa := Lib.hid (FR7.out.trans (fa.mono (B' := w6.heap.size) (L' := []) FR7.out.size (by simp)))
          have RFa := Lib.hid ((hf2.fr fa (Nat.le_refl _) (by simp)).more fa.size)
          clear hfo hx hsm f7 HFI hf2 hnf hnp hc1 HO FR FW HO7 FR7 fa
          go_upto_region 15 with fail
          generalize w7.alloc (.cells (ndA x (.slice Af nf cf) (.slice Ap np cq)) 31) = wa at *
          generalize w7.heap.size = gx at *
          have q2 := BX.out.cell 2
          simp at q2
          have hkl : k = (l.take k).length := by rw [List.length_take, HLN.out]; omega
          have HKL := Lib.hid hkl
          have HH1 := rhas_any i1 A' c' _ k (l.take k) wa hkl (by omega) (Reads.of_own HOa.out)
          rw [show hasI (l.take k) i1 = false by cases hh : hasI (l.take k) i1 with | false => rfl | true => exact absurd (hasI_iff.1 hh) HNOT.out] at HH1
          have HH1 := Lib.hid HH1
          clear hkl
          go_wp2_with fail
          refine HH1.out.mono ?_
          rintro e w8 ⟨rfl, rfl⟩
          go_wp2_with fail
          go_loopg [74] nf (fun g s74 wr => ∃ j : Nat, j ≤ nf ∧ g = nf - j ∧ s74 = .int .i64 j ∧ RowKit.Hid (Fr wa.heap.size [] wa wr))
          case atStart => exact ⟨0, Nat.zero_le _, rfl, rfl, Lib.hid (Fr.refl _ _ _)⟩
          case round =>
            obtain ⟨j, hj, rfl, rfl, FJ⟩ := hrel
            have FRj := Lib.hid (FRa.out.trans (FJ.out.mono (B' := w6.heap.size) (L' := []) FRa.out.size (by simp)))
            have HOj := Lib.hid (ownsRow_fr HOa.out FJ.out (fun q hq => ⟨(HOa.out.lt q hq).2, by simp⟩))
            have FWj := Lib.hid (F6.out.trans (FRj.out.mono (B' := w.heap.size) (L' := []) F6.out.size (by simp)))
            by_cases hjn : j < nf
            · have hji : (j : Int) < (nf : Int) := by omega
              have hj0 : (0 : Int) ≤ (j : Int) := by omega
              obtain ⟨f, hf⟩ : ∃ f, x.fr[j]? = some f := ⟨_, List.getElem?_eq_getElem (by rw [← HNF.out]; exact hjn)⟩
              have hrf := RFa.out.fr FJ.out (Nat.le_refl _) (by simp)
              obtain ⟨b2, o2, u2, rfl, hb2, hu2, hc2⟩ := hrf.one hjn
              rw [List.getElem?_map, hf] at hu2
              simp at hu2
              subst hu2
              obtain ⟨m1, m2, m3⟩ := HALL.out f (List.mem_of_getElem? hf)
              have HH2 := rhas_any f A' c' _ k (l.take k) wr HKL.out (by omega) (Reads.of_own HOj.out)
              rw [hasI_iff.2 m1] at HH2
              have HH2 := Lib.hid HH2
              have HCH := children_any f A c w.heap.size no M wr (H.out.frw FWj.out (Nat.le_refl _) (by simp)) FWj.out.size HS.out
              rw [show M.map (·.1) = L from HL.out.symm] at HCH
              have HCH := Lib.hid HCH
              have M2 := Lib.hid m2
              have M3 := Lib.hid m3
              clear hf hrf m1 m2 m3 hb2
              go_wp2_with fail
              refine HH2.out.mono ?_
              rintro e w9 ⟨rfl, rfl⟩
              go_wp2_with fail
              refine HCH.out.mono ?_
              rintro e w9 ⟨A9, c9, k9, hk9, rfl, ho9, f9⟩
              have hk99 : k9 ≤ 1000000 := by
                rw [hk9]
                have h1 := kidsN_le L f []
                have h2 : (childN L f).length = (kidsN L f []).length := (srt_perm _).length_eq
                have h3 : L.length = no := by rw [HL.out, H.out.num]; simp [fstN]
                simp at h1
                omega
              have FJ9 := Lib.hid (FJ.out.trans (f9.mono (B' := wa.heap.size) (L' := []) FJ.out.size (by simp)))
              have FW9 := Lib.hid (FWj.out.trans (f9.mono (B' := w.heap.size) (L' := []) FWj.out.size (by simp)))
              have HH3 := rhas_any i1 A9 c9 _ k9 (childN L f) w9 hk9 hk99 (Reads.of_own ho9)
              rw [hasI_iff.2 M2.out] at HH3
              have HH3 := Lib.hid HH3
              have HBE := below_any f A c w.heap.size no M w9 (H.out.frw FW9.out (Nat.le_refl _) (by simp)) FW9.out.size HS.out
              rw [← HL.out] at HBE
              have HBE := Lib.hid HBE
              clear hk9 ho9 f9 HH2 HCH hc2
              go_wp2_with fail
              refine HH3.out.mono ?_
              rintro e w10 ⟨rfl, rfl⟩
              go_wp2_with fail
              refine HBE.out.mono ?_
              rintro e w10 ⟨A10, c10, k10, hk10, rfl, ho10, f10⟩
              have hk1010 : k10 ≤ 1000000 := by
                rw [hk10]
                have h1 := belN_le L f (orderN L) []
                have h2 : (belowN L f).length = (belN L f (orderN L) []).length := (srt_perm _).length_eq
                have h3 := orderN_le L
                simp at h1
                omega
              have FJ10 := Lib.hid (FJ9.out.trans (f10.mono (B' := wa.heap.size) (L' := []) FJ9.out.size (by simp)))
              have HH4 := rhas_any i1 A10 c10 _ k10 (belowN L f) w10 hk10 hk1010 (Reads.of_own ho10)
              rw [hasI_iff.2 M3.out] at HH4
              have HH4 := Lib.hid HH4
              clear hk10 ho10 f10 HH3 HBE
              go_wp2_with fail
              refine HH4.out.mono ?_
              rintro e w11 ⟨rfl, rfl⟩
              go_wp2_with fail
              go_roundg (nf - (j + 1))
              case measure => omega
              case rel => exact ⟨j + 1, by omega, rfl, by go_num, FJ10⟩
            · obtain rfl : j = nf := by omega
              have hown := HOj.out
              have hsz := FRj.out.size
              have HTK := Lib.hid (show l.take (k + 1) = l.take k ++ [i1] by rw [List.take_add_one, HI1.out]; rfl)
              go_wp2_with (at_builtin; refine wpList_app_lit _ rfl (.tmp 99) (.tmp 101) intsTy rfl w6.heap.size (.slice A' k c') k _ rfl hown 1 1 _ rfl rfl (by simp [Value.oneCell']) (by omega) (by omega) hsz ?_; intro A3 c3 w12 hown12 hg12 hat12)
              have F12 := Lib.hid (FRj.out.trans (Fr.of_app hg12 hown hsz))
              have HO12 := Lib.hid hown12
              clear hown12 hg12 hat12 hown
              go_roundg (no - (k + 1))
              case measure => omega
              case rel => exact ⟨k + 1, A3, c3, by omega, rfl, by go_num, rfl, by rw [HTK.out, List.map_append]; exact HO12, F12⟩
        · obtain rfl : k = no := by omega
          have HBE := below_any 0 A c w.heap.size k M wr (H.out.frw FW.out (Nat.le_refl _) (by simp)) FW.out.size HS.out
          rw [← HL.out] at HBE
          have HBE := Lib.hid HBE
          have hb0 := below_zero HR.out
          have h3 : L.length = k := by rw [HL.out, H.out.num]; simp [fstN]
          rw [h3] at hb0
          have HB0 := Lib.hid hb0
          clear h3 hb0
          go_wp2_with fail
          refine HBE.out.mono ?_
          rintro e w13 ⟨A13, c13, k13, hk13, rfl, _, f13⟩
          have hk14 : k = k13 + 1 := by have := HB0.out; omega
          have FE := Lib.hid (FW.out.trans (f13.mono (B' := w.heap.size) (L' := []) FW.out.size (by simp)))
          have hq1 : ((k13 : Int) == (k : Int) - 1) = true := by simp; omega
          have hk1 : (1 : Int) ≤ (k : Int) := by omega
          clear hk14 hk13
          go_wp2_with fail
          go_ret
          exact ⟨rfl, FE.out.below⟩
end Go.Proofs.Ytjekpfcniamodaa
