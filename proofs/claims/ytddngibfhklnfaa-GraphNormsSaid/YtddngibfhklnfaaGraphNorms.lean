/- The walk of GraphNorms. -/
import Derived.Test.YtddngibfhklnfaaGraphGrows
import Derived.Test.YtddngibfhklnfaaGrT
import Derived.Test.YtddngibfhklnfaaStill
import Derived.Deep.RegionHeld3
import Derived.Deep.DeepCutAuto
namespace Go.Proofs.Ytddngibfhklnfaa
open Go.RowKit Go.Fb
theorem Nmd.setPar {base g n c : Nat} {w : World} {x : Nd} {sf sp : Value} {M : List Ndm} (h : Nmd base w (some ⟨g, 0, none⟩) n c ((x, sf, sp) :: M)) (p : Int) : Nmd base (w.setCell ⟨g, 4, none⟩ (.int .i64 p)) (some ⟨g, 0, none⟩) n c ((parN x p, sf, sp) :: M) := by
  have hf : Fr w.heap.size [g] w (w.setCell ⟨g, 4, none⟩ (.int .i64 p)) := (Fr.refl w.heap.size [g] w).setCell (p := ⟨g, 4, none⟩) (.inr (by simp)) _
  refine ⟨h.num, ?_, fun m hm => ?_⟩
  · have := ownsRow_setN h.own 4 (.int .i64 p)
    exact this
  · have hin : ∃ m0 ∈ (x, sf, sp) :: M, m.2 = m0.2 ∧ m.1.fr = m0.1.fr ∧ m.1.pg = m0.1.pg := by
      rcases List.mem_cons.1 hm with rfl | hm
      · exact ⟨_, List.mem_cons_self, rfl, rfl, rfl⟩
      · exact ⟨m, List.mem_cons_of_mem _ hm, rfl, rfl, rfl⟩
    obtain ⟨m0, hm0, e1, e2, e3⟩ := hin
    obtain ⟨⟨a1, a2⟩, b1, b2, b3, b4⟩ := (h.inn m0 hm0).frL hf
    obtain ⟨y, u⟩ := m
    simp only at e1 e2 e3
    subst e1
    exact ⟨⟨by rw [e2]; exact a1, by rw [e3]; exact a2⟩, b1, b2, b3, b4⟩
set_option maxRecDepth 100000 in
set_option maxHeartbeats 8000000 in
theorem walk_GraphNorms (A : Option Addr) (n c : Nat) (M : List Ndm) (hc : n ≤ c) (hm : c ≤ maxLen) (A2 : Option Addr) (n2 c2 : Nat) (K : List Ndm) (hc2 : n2 ≤ c2) (hm2 : c2 ≤ maxLen) (w : World) (h : Nds w w.heap.size A n M) (h2 : Nds w w.heap.size A2 n2 K) (id : Int) :
    Calls Try.prog 4 #[.slice A n c, .slice A2 n2 c2, .int .i64 id] w fun e w' => e = .returned (.bool true) ∧ Below w.heap.size w w' := by
  obtain ⟨L, hL⟩ : ∃ L, L = fstN M := ⟨_, rfl⟩
  obtain ⟨L2, hL2⟩ : ∃ L, L = fstN K := ⟨_, rfl⟩
  have HL := Lib.hid hL
  have HL2 := Lib.hid hL2
  have H := Lib.hid h
  have H2 := Lib.hid h2
  have HG := fun (wx : World) (hx : Fr w.heap.size [] w wx) => great08_any A c w.heap.size n M wx (h.frw hx (Nat.le_refl _) (by simp)) hx.size (by omega)
  have HG2 := fun (wx : World) (hx : Fr w.heap.size [] w wx) => great08_any A2 c2 w.heap.size n2 K wx (h2.frw hx (Nat.le_refl _) (by simp)) hx.size (by omega)
  obtain ⟨gb, hgb⟩ : ∃ b, b = greatN L := ⟨_, rfl⟩
  obtain ⟨gb2, hgb2⟩ : ∃ b, b = greatN L2 := ⟨_, rfl⟩
  rw [← hL, ← hgb] at HG
  rw [← hL2, ← hgb2] at HG2
  have HG := Lib.hid HG
  have HG2 := Lib.hid HG2
  have HGB := Lib.hid hgb
  have HGB2 := Lib.hid hgb2
  have HA := Lib.hid (awake08_any w)
  clear h hL hgb h2 hL2 hgb2
  go_enter Try.func4, Try.ntmps4
  go_wp2_with fail
  refine HA.out.mono ?_
  rintro e w1 ⟨rfl, f1⟩
  have F1 := Lib.hid f1
  clear f1 HA
  go_wp2_with fail
  refine (HG.out w1 F1.out).mono ?_
  rintro e w2 ⟨rfl, f2⟩
  have F2 := Lib.hid (F1.out.trans (f2.mono (B' := w.heap.size) (L' := []) F1.out.size (by simp)))
  clear f2 HG F1
  cases gb with
  | true =>
    go_wp2_with fail
    go_ret
    exact ⟨rfl, F2.out.below⟩
  | false =>
  go_wp2_with fail
  refine (HG2.out w2 F2.out).mono ?_
  rintro e w3 ⟨rfl, f3⟩
  have F3 := Lib.hid (F2.out.trans (f3.mono (B' := w.heap.size) (L' := []) F2.out.size (by simp)))
  clear f3 HG2 F2
  cases gb2 with
  | true =>
    go_wp2_with fail
    go_ret
    exact ⟨rfl, F3.out.below⟩
  | false =>
  obtain ⟨hl20, hs, _⟩ := small_great (by rw [← HL.out]; exact HGB.out.symm : greatN (fstN M) = false)
  obtain ⟨hl20', hs2, _⟩ := small_great (by rw [← HL2.out]; exact HGB2.out.symm : greatN (fstN K) = false)
  have HS := Lib.hid hs
  have HS2 := Lib.hid hs2
  have hn20 : n ≤ 20 := by rw [H.out.num]; exact hl20
  have hn220 : n2 ≤ 20 := by rw [H2.out.num]; exact hl20'
  have HN := Lib.hid (norm_any A c w.heap.size n M w3 (H.out.frw F3.out (Nat.le_refl _) (by simp)) F3.out.size hs hn20)
  clear hs hs2 hl20 hl20' HGB HGB2
  go_wp2_with fail
  refine HN.out.mono ?_
  rintro e w4 ⟨A3, c3, n3, M3, hn3, rfl, ho3, hi3, hf3, f4⟩
  have hnn : n3 = n := by
    have := congrArg List.length hf3
    rw [normL_len] at this
    simp [fstN] at this
    rw [hn3, this, ← H.out.num]
  subst hnn
  have HM3 := Lib.hid (show Nmd w3.heap.size w4 A3 n3 c3 M3 from ⟨hn3, ho3, hi3⟩)
  have HF3 := Lib.hid (show fstN M3 = normL L by rw [hf3, HL.out])
  have HSM3 := Lib.hid (small_norm HS.out hf3)
  have F4 := Lib.hid (F3.out.trans (f4.mono (B' := w.heap.size) (L' := []) F3.out.size (by simp)))
  have HSA := Lib.hid (fun (wx : World) (hx : Fr w4.heap.size [] w4 wx) => (by
    have := gsame_any A A3 c c3 wx.heap.size n3 n3 M M3 wx ((H.out.frw (F4.out.trans (hx.mono (B' := w.heap.size) (L' := []) F4.out.size (by simp))) (Nat.le_refl _) (by simp)).more (Nat.le_trans F4.out.size hx.size)) ((HM3.out.nds hx (by simp)).more hx.size) (Nat.le_refl _) HS.out HSM3.out hn20 hn20
    rw [HF3.out, ← HL.out, sameL_norm] at this
    exact this : Calls Try.prog 24 #[.slice A n3 c, .slice A3 n3 c3] wx fun e w' => e = .returned (.bool true) ∧ Fr wx.heap.size [] wx w'))
  have HSB := Lib.hid (fun (wx : World) (hx : Fr w4.heap.size [] w4 wx) => (by
    have hh := (H.out.frw (F4.out.trans (hx.mono (B' := w.heap.size) (L' := []) F4.out.size (by simp))) (Nat.le_refl _) (by simp))
    have := gsame_any A A c c w.heap.size n3 n3 M M wx hh hh (Nat.le_trans F4.out.size hx.size) HS.out HS.out hn20 hn20
    rw [← HL.out, sameL_self] at this
    exact this : Calls Try.prog 24 #[.slice A n3 c, .slice A n3 c] wx fun e w' => e = .returned (.bool true) ∧ Fr wx.heap.size [] wx w'))
  have HZ3 := Lib.hid F3.out.size
  clear hn3 ho3 hi3 hf3 f4 HN F3
  go_wp2_with fail
  refine (HSA.out w4 (Fr.refl _ _ _)).mono ?_
  rintro e w5 ⟨rfl, f5⟩
  have G5 := Lib.hid f5
  clear f5 HSA
  go_wp2_with fail
  refine (HSB.out w5 G5.out).mono ?_
  rintro e w6 ⟨rfl, f6⟩
  have G6 := Lib.hid (G5.out.trans (f6.mono (B' := w4.heap.size) (L' := []) G5.out.size (by simp)))
  clear f6 HSB G5
  go_wp2_with fail
  go_loopg [41] n3 (fun g s41 wr => ∃ k : Nat, k ≤ n3 ∧ g = n3 - k ∧ s41 = .int .i64 k ∧ RowKit.Hid (Fr w4.heap.size [] w4 wr))
  case atStart => exact ⟨0, Nat.zero_le _, rfl, rfl, G6⟩
  case round =>
    obtain ⟨k, hk, rfl, rfl, GR⟩ := hrel
    have HMr := Lib.hid (HM3.out.frd GR.out (by simp))
    by_cases hkn : k < n3
    · obtain ⟨g, cap, hv, hbg, hlt⟩ := HMr.out.own.form (by omega)
      injection hv with hv1 _ hv3
      subst hv1
      clear hv3 hbg hlt
      rcases Nat.eq_zero_or_pos k with h0 | h0
      · subst h0
        go_wp2_with fail
        go_quiet (fail)
        go_wp2_with fail
        go_roundg (n3 - 1)
        case measure => omega
        case rel => exact ⟨1, by omega, rfl, by go_num, Lib.hid (GR.out.drewN _)⟩
      · obtain ⟨j, rfl⟩ : ∃ j, k = j + 1 := ⟨k - 1, by omega⟩
        obtain ⟨a, ha⟩ : ∃ a, M3[j + 1]? = some a := ⟨_, List.getElem?_eq_getElem (by rw [← HM3.out.num]; exact hkn)⟩
        obtain ⟨b, hb⟩ : ∃ b, M3[j]? = some b := ⟨_, List.getElem?_eq_getElem (by rw [← HM3.out.num]; omega)⟩
        have ca := nd_cell HMr.out.own ha 0 (.int .i64 a.1.id) rfl
        have cb := nd_cell HMr.out.own hb 0 (.int .i64 b.1.id) rfl
        have hle : b.1.id ≤ a.1.id := norm_up (L := L) (i := j) (by rw [← HF3.out]; simp [fstN, hb]) (by rw [← HF3.out]; simp [fstN, ha])
        simp only [Nat.add_zero] at ca cb
        obtain ⟨ai, hai⟩ : ∃ i, i = a.1.id := ⟨_, rfl⟩
        obtain ⟨bi, hbi⟩ : ∃ i, i = b.1.id := ⟨_, rfl⟩
        rw [← hai] at ca hle
        rw [← hbi] at cb hle
        have hd : decide (ai < bi) = false := decide_eq_false (by omega)
        have hk1 : ((j : Int) + 1) < (n3 : Int) := by omega
        have hk2 : (j : Int) < (n3 : Int) := by omega
        have hk3 : (0 : Int) ≤ (j : Int) := by omega
        have hk4 : (0 : Int) ≤ (j : Int) + 1 := by omega
        have hk5 : decide ((0 : Int) < (j : Int) + 1) = true := decide_eq_true (by omega)
        have hw1 : IntKind.i64.wrap (j : Int) = (j : Int) := by rw [IntKind.wrap_i64]; omega
        have hw2 : IntKind.i64.wrap ((j : Int) + 1 - 1) = (j : Int) := by rw [IntKind.wrap_i64]; omega
        clear ha hb hai hbi
        go_wp2_with fail
        go_quiet (fail)
        go_wp2_with fail
        go_roundg (n3 - (j + 1 + 1))
        case measure => omega
        case rel => exact ⟨j + 1 + 1, by omega, rfl, by go_num, Lib.hid (GR.out.drewN _)⟩
    · obtain rfl : k = n3 := by omega
      have FW := Lib.hid (F4.out.trans (GR.out.mono (B' := w.heap.size) (L' := []) F4.out.size (by simp)))
      have HFI := find_any id A c w.heap.size k M wr (H.out.frw FW.out (Nat.le_refl _) (by simp)) FW.out.size HS.out
      rw [show M.map (·.1) = L from HL.out.symm] at HFI
      have HFI := Lib.hid HFI
      clear HMr G6
      go_wp2_with fail
      refine HFI.out.mono ?_
      rintro e w7 hfo
      obtain ⟨x, sf, sp, hx, rfl, hin, f7⟩ := hfo.get
      have hsm := getN_small HS.out id
      rw [← HL.out, ← hx] at hsm
      obtain ⟨ob, hob⟩ : ∃ b, b = (findN L id).isSome := ⟨_, rfl⟩
      rw [← hob]
      have fa := (Fr.refl w7.heap.size [] w7).alloc (Nat.le_refl _) (.cells (ndA x sf sp) 38)
      have G8 := Lib.hid (GR.out.trans ((f7.trans (fa.mono (B' := wr.heap.size) (L' := []) f7.size (by simp))).mono (B' := w4.heap.size) (L' := []) GR.out.size (by simp)))
      have BX := Lib.hid (Blk.new w7 38 (ndA x sf sp))
      have HIN := Lib.hid ((hin.frw fa (Nat.le_refl _) (by simp)).more fa.size)
      have hinb := hin
      obtain ⟨⟨Af, cf, hf1, _⟩, ⟨Ap, cq, hp1, _⟩⟩ := hinb
      simp only at hf1 hp1
      subst hf1
      subst hp1
      have HX := Lib.hid hx
      have HOB := Lib.hid hob
      have HSMX := Lib.hid hsm
      clear hfo hx f7 HFI fa hin hob hsm
      go_upto_region 15 with fail
      generalize w7.alloc (.cells (ndA x (.slice Af x.fr.length cf) (.slice Ap x.pg.length cq)) 38) = w8 at *
      generalize w7.heap.size = gx at *
      have FW8 := Lib.hid (F4.out.trans (G8.out.mono (B' := w.heap.size) (L' := []) F4.out.size (by simp)))
      have HRF := rfind_any id A c w.heap.size k M w8 (H.out.frw FW8.out (Nat.le_refl _) (by simp)) (by omega)
      rw [← HL.out] at HRF
      obtain ⟨ix, hix⟩ : ∃ i, i = ixN L id := ⟨_, rfl⟩
      rw [← hix] at HRF
      have HRF := Lib.hid HRF
      have HIX := Lib.hid hix
      clear hix
      go_wp2_with fail
      refine HRF.out.mono ?_
      rintro e w9 ⟨rfl, rfl⟩
      go_upto_region 16 with fail
      go_cut [95] (fun s wx => s = .bool false ∧ RowKit.Hid (Fr w8.heap.size [] w8 wx))
      case first =>
        rcases ixN_cases L id with ⟨h1, h2⟩ | ⟨i, y, h1, h2, h3⟩
        · have hob : ob = false := by rw [HOB.out, h2]; rfl
          have hix2 : ix = -1 := by rw [HIX.out]; exact h1
          subst hob
          subst hix2
          have hxz : x = zNd := by rw [HX.out]; exact getN_none h2
          have HW := Lib.hid (fun (wx : World) (hx : Fr w8.heap.size [] w8 wx) => (by
            have := rnode_any x zNd _ _ (.slice none 0 0) (.slice none 0 0) w8.heap.size wx (HIN.out.frw hx (Nat.le_refl _) (by simp)) ⟨⟨none, 0, rfl, Reads.none_⟩, ⟨none, 0, rfl, Reads.none_⟩⟩ hx.size HSMX.out (by simp [zNd])
            rw [show sameNd x zNd = true by rw [hxz]; exact sameNd_refl _] at this
            exact this : Calls Try.prog 27 #[.agg (ndA x (.slice Af x.fr.length cf) (.slice Ap x.pg.length cq)), .agg ndZ] wx fun e w' => e = .returned (.bool true) ∧ Fr wx.heap.size [] wx w'))
          have q0 := BX.out.cell 0
          have q1 := BX.out.cell 1
          have q2 := BX.out.cell 2
          have q3 := BX.out.cell 3
          have q4 := BX.out.cell 4
          have q5 := BX.out.cell 5
          have q6 := BX.out.cell 6
          have q7 := BX.out.cell 7
          have q8 := BX.out.cell 8
          have q9 := BX.out.cell 9
          have q10 := BX.out.cell 10
          have q11 := BX.out.cell 11
          have q12 := BX.out.cell 12
          simp at q0 q1 q2 q3 q4 q5 q6 q7 q8 q9 q10 q11 q12
          clear h1 h2 HIX hxz
          refine region_tail 22 (by kernel_rfl) (by kernel_rfl) ?_
          simp only [List.take_succ_cons, List.take_zero, List.drop_succ_cons, List.drop_zero]
          iterate 22 (refine stillO_step (fun K hK => ?_); go_simp; refine hK _ ?_; clear hK K)
          refine stillO_nil ?_
          have fd := Lib.hid ((Fr.refl w8.heap.size [] w8).drew)
          generalize w8.drew = w10 at *
          have HW10 := Lib.hid (HW.out w10 fd.out)
          clear HW
          go_wp2_with fail
          refine HW10.out.mono ?_
          rintro e w11 ⟨rfl, f11⟩
          have G11 := Lib.hid (fd.out.trans (f11.mono (B' := w8.heap.size) (L' := []) fd.out.size (by simp)))
          clear f11
          go_wp2_with fail
          go_meet
          exact ⟨rfl, G11⟩
        · have hob : ob = true := by rw [HOB.out, h3]; rfl
          have hix2 : ix = (i : Int) := by rw [HIX.out]; exact h1
          subst hob
          subst hix2
          have hxy : y = x := by rw [HX.out]; exact (getN_some h3).symm
          subst hxy
          have hin2 : i < k := by
            have := (List.getElem?_eq_some_iff.1 h2).1
            rw [HL.out] at this
            simp [fstN] at this
            rw [H.out.num]
            exact this
          obtain ⟨m2, hx2⟩ : ∃ m, M[i]? = some m := ⟨_, List.getElem?_eq_getElem (by rw [← H.out.num]; exact hin2)⟩
          have hmx : m2.1 = y := by
            have := h2
            rw [HL.out] at this
            simp [fstN, hx2] at this
            exact this
          have HND8 := H.out.frw FW8.out (Nat.le_refl _) (by simp)
          obtain ⟨b2, o2, rfl, hb2, hc2⟩ := HND8.get hx2
          have hinn := HND8.inn m2 (List.mem_of_getElem? hx2)
          obtain ⟨x, tf, tp⟩ := m2
          simp only at hmx
          subst hmx
          have HW := Lib.hid (fun (wx : World) (hx : Fr w8.heap.size [] w8 wx) => (by
            have := rnode_any x x _ _ tf tp w8.heap.size wx (HIN.out.frw hx (Nat.le_refl _) (by simp)) ((hinn.more FW8.out.size).frw hx (Nat.le_refl _) (by simp)) hx.size HSMX.out HSMX.out
            rw [sameNd_refl] at this
            exact this : Calls Try.prog 27 #[.agg (ndA x (.slice Af x.fr.length cf) (.slice Ap x.pg.length cq)), .agg (ndA x tf tp)] wx fun e w' => e = .returned (.bool true) ∧ Fr wx.heap.size [] wx w'))
          obtain ⟨⟨Bf, df, kf1, _⟩, ⟨Bp, dp, kp1, _⟩⟩ := hinn
          simp only at kf1 kp1
          subst kf1
          subst kp1
          obtain ⟨t0, t1, t2, t3, h4, h5, h6, h7, h8, h9, h10, h11, h12⟩ := ndL_get (x, .slice Bf x.fr.length df, .slice Bp x.pg.length dp)
          have r0 := hc2 0 _ t0
          have r1 := hc2 1 _ t1
          have r2 := hc2 2 _ t2
          have r3 := hc2 3 _ t3
          have r4 := hc2 4 _ h4
          have r5 := hc2 5 _ h5
          have r6 := hc2 6 _ h6
          have r7 := hc2 7 _ h7
          have r8 := hc2 8 _ h8
          have r9 := hc2 9 _ h9
          have r10 := hc2 10 _ h10
          have r11 := hc2 11 _ h11
          have r12 := hc2 12 _ h12
          simp only [Nat.add_zero] at r0
          have hb2 : b2 < w8.heap.size := Nat.lt_of_lt_of_le hb2 FW8.out.size
          have hii : (i : Int) < (k : Int) := by omega
          have hi0 : (0 : Int) ≤ (i : Int) := by omega
          have SF := Lib.hid (fun (w : World) (h : Fr w8.heap.size [] w8 w) => (⟨(BX.out.fr h BX.out.lt (by simp)).cell 0, (BX.out.fr h BX.out.lt (by simp)).cell 1, (BX.out.fr h BX.out.lt (by simp)).cell 2, (BX.out.fr h BX.out.lt (by simp)).cell 3, (BX.out.fr h BX.out.lt (by simp)).cell 4, (BX.out.fr h BX.out.lt (by simp)).cell 5, (BX.out.fr h BX.out.lt (by simp)).cell 6, (BX.out.fr h BX.out.lt (by simp)).cell 7, (BX.out.fr h BX.out.lt (by simp)).cell 8, (BX.out.fr h BX.out.lt (by simp)).cell 9, (BX.out.fr h BX.out.lt (by simp)).cell 10, (BX.out.fr h BX.out.lt (by simp)).cell 11, (BX.out.fr h BX.out.lt (by simp)).cell 12, (h.cell (p := ⟨b2, o2 + i * 13, none⟩) hb2 (by simp)).trans r0, (h.cell (p := ⟨b2, o2 + i * 13 + 1, none⟩) hb2 (by simp)).trans r1, (h.cell (p := ⟨b2, o2 + i * 13 + 2, none⟩) hb2 (by simp)).trans r2, (h.cell (p := ⟨b2, o2 + i * 13 + 3, none⟩) hb2 (by simp)).trans r3, (h.cell (p := ⟨b2, o2 + i * 13 + 4, none⟩) hb2 (by simp)).trans r4, (h.cell (p := ⟨b2, o2 + i * 13 + 5, none⟩) hb2 (by simp)).trans r5, (h.cell (p := ⟨b2, o2 + i * 13 + 6, none⟩) hb2 (by simp)).trans r6, (h.cell (p := ⟨b2, o2 + i * 13 + 7, none⟩) hb2 (by simp)).trans r7, (h.cell (p := ⟨b2, o2 + i * 13 + 8, none⟩) hb2 (by simp)).trans r8, (h.cell (p := ⟨b2, o2 + i * 13 + 9, none⟩) hb2 (by simp)).trans r9, (h.cell (p := ⟨b2, o2 + i * 13 + 10, none⟩) hb2 (by simp)).trans r10, (h.cell (p := ⟨b2, o2 + i * 13 + 11, none⟩) hb2 (by simp)).trans r11, (h.cell (p := ⟨b2, o2 + i * 13 + 12, none⟩) hb2 (by simp)).trans r12⟩ : w.cell? ⟨gx, 0, none⟩ = some (.int .i64 x.id) ∧ w.cell? ⟨gx, 1, none⟩ = some (.int .i64 x.kind) ∧ w.cell? ⟨gx, 2, none⟩ = some (.slice Af x.fr.length cf) ∧ w.cell? ⟨gx, 3, none⟩ = some (.slice Ap x.pg.length cq) ∧ w.cell? ⟨gx, 4, none⟩ = some (.int .i64 x.par) ∧ w.cell? ⟨gx, 5, none⟩ = some (.int .i64 (x.rt 0)) ∧ w.cell? ⟨gx, 6, none⟩ = some (.int .i64 (x.rt 1)) ∧ w.cell? ⟨gx, 7, none⟩ = some (.int .i64 (x.rt 2)) ∧ w.cell? ⟨gx, 8, none⟩ = some (.int .i64 (x.rt 3)) ∧ w.cell? ⟨gx, 9, none⟩ = some (.int .i64 (x.rt 4)) ∧ w.cell? ⟨gx, 10, none⟩ = some (.int .i64 (x.rt 5)) ∧ w.cell? ⟨gx, 11, none⟩ = some (.int .i64 (x.rt 6)) ∧ w.cell? ⟨gx, 12, none⟩ = some (.int .i64 (x.rt 7)) ∧ w.cell? ⟨b2, o2 + i * 13, none⟩ = some (.int .i64 x.id) ∧ w.cell? ⟨b2, o2 + i * 13 + 1, none⟩ = some (.int .i64 x.kind) ∧ w.cell? ⟨b2, o2 + i * 13 + 2, none⟩ = some (.slice Bf x.fr.length df) ∧ w.cell? ⟨b2, o2 + i * 13 + 3, none⟩ = some (.slice Bp x.pg.length dp) ∧ w.cell? ⟨b2, o2 + i * 13 + 4, none⟩ = some (.int .i64 x.par) ∧ w.cell? ⟨b2, o2 + i * 13 + 5, none⟩ = some (.int .i64 (x.rt 0)) ∧ w.cell? ⟨b2, o2 + i * 13 + 6, none⟩ = some (.int .i64 (x.rt 1)) ∧ w.cell? ⟨b2, o2 + i * 13 + 7, none⟩ = some (.int .i64 (x.rt 2)) ∧ w.cell? ⟨b2, o2 + i * 13 + 8, none⟩ = some (.int .i64 (x.rt 3)) ∧ w.cell? ⟨b2, o2 + i * 13 + 9, none⟩ = some (.int .i64 (x.rt 4)) ∧ w.cell? ⟨b2, o2 + i * 13 + 10, none⟩ = some (.int .i64 (x.rt 5)) ∧ w.cell? ⟨b2, o2 + i * 13 + 11, none⟩ = some (.int .i64 (x.rt 6)) ∧ w.cell? ⟨b2, o2 + i * 13 + 12, none⟩ = some (.int .i64 (x.rt 7))))
          clear hc2 hx2 h1 h2 h3 HND8 t0 t1 t2 t3 h4 h5 h6 h7 h8 h9 h10 h11 h12 r0 r1 r2 r3 r4 r5 r6 r7 r8 r9 r10 r11 r12
          have INV := Lib.hid ((Fr.refl w8.heap.size [] w8).drew)
          refine wp_region_held_drew (S := fun w => w.cell? ⟨gx, 0, none⟩ = some (.int .i64 x.id) ∧ w.cell? ⟨gx, 1, none⟩ = some (.int .i64 x.kind) ∧ w.cell? ⟨gx, 2, none⟩ = some (.slice Af x.fr.length cf) ∧ w.cell? ⟨gx, 3, none⟩ = some (.slice Ap x.pg.length cq) ∧ w.cell? ⟨gx, 4, none⟩ = some (.int .i64 x.par) ∧ w.cell? ⟨gx, 5, none⟩ = some (.int .i64 (x.rt 0)) ∧ w.cell? ⟨gx, 6, none⟩ = some (.int .i64 (x.rt 1)) ∧ w.cell? ⟨gx, 7, none⟩ = some (.int .i64 (x.rt 2)) ∧ w.cell? ⟨gx, 8, none⟩ = some (.int .i64 (x.rt 3)) ∧ w.cell? ⟨gx, 9, none⟩ = some (.int .i64 (x.rt 4)) ∧ w.cell? ⟨gx, 10, none⟩ = some (.int .i64 (x.rt 5)) ∧ w.cell? ⟨gx, 11, none⟩ = some (.int .i64 (x.rt 6)) ∧ w.cell? ⟨gx, 12, none⟩ = some (.int .i64 (x.rt 7)) ∧ w.cell? ⟨b2, o2 + i * 13, none⟩ = some (.int .i64 x.id) ∧ w.cell? ⟨b2, o2 + i * 13 + 1, none⟩ = some (.int .i64 x.kind) ∧ w.cell? ⟨b2, o2 + i * 13 + 2, none⟩ = some (.slice Bf x.fr.length df) ∧ w.cell? ⟨b2, o2 + i * 13 + 3, none⟩ = some (.slice Bp x.pg.length dp) ∧ w.cell? ⟨b2, o2 + i * 13 + 4, none⟩ = some (.int .i64 x.par) ∧ w.cell? ⟨b2, o2 + i * 13 + 5, none⟩ = some (.int .i64 (x.rt 0)) ∧ w.cell? ⟨b2, o2 + i * 13 + 6, none⟩ = some (.int .i64 (x.rt 1)) ∧ w.cell? ⟨b2, o2 + i * 13 + 7, none⟩ = some (.int .i64 (x.rt 2)) ∧ w.cell? ⟨b2, o2 + i * 13 + 8, none⟩ = some (.int .i64 (x.rt 3)) ∧ w.cell? ⟨b2, o2 + i * 13 + 9, none⟩ = some (.int .i64 (x.rt 4)) ∧ w.cell? ⟨b2, o2 + i * 13 + 10, none⟩ = some (.int .i64 (x.rt 5)) ∧ w.cell? ⟨b2, o2 + i * 13 + 11, none⟩ = some (.int .i64 (x.rt 6)) ∧ w.cell? ⟨b2, o2 + i * 13 + 12, none⟩ = some (.int .i64 (x.rt 7))) (by kernel_rfl) (SF.out _ INV.out) (fun hHeld => ?_)
          refine wpAnyH_take (i := 0) (oi := { dst := some 70, op := Op.move (Operand.tmp 10), type := 4, pos := "law.go:66", after := #[], guard := none }) (v := ?_) rfl (by kernel_rfl) (by kernel_rfl) (by kernel_rfl) (fun _ _ _ h => h) (Or.inl ⟨by rfl, ?_⟩) hHeld ?_
          rotate_left
          · intro w hSw; (try dsimp only at hSw); go_simp; (try with_reducible rfl)
          simp only [Act.put, List.setIfInBounds_toArray, List.set_cons_zero, List.set_cons_succ]
          refine wpAnyH_take (i := 1) (oi := { dst := some 71, op := Op.move (Operand.tmp 11), type := 3, pos := "law.go:66", after := #[], guard := none }) (v := ?_) rfl (by kernel_rfl) (by kernel_rfl) (by kernel_rfl) (fun _ _ _ h => h) (Or.inl ⟨by rfl, ?_⟩) hHeld ?_
          rotate_left
          · intro w hSw; (try dsimp only at hSw); go_simp; (try with_reducible rfl)
          simp only [Act.put, List.setIfInBounds_toArray, List.set_cons_zero, List.set_cons_succ]
          refine wpAnyH_take (i := 2) (oi := { dst := some 72, op := Op.binOp BinOp.geq 3 (Operand.tmp 71) (Operand.const (Value.int IntKind.i64 0)) 3, type := 4, pos := "law.go:66", after := #[{ on := 1, ground := Ground.data }], guard := none }) (v := ?_) rfl (by kernel_rfl) (by kernel_rfl) (by kernel_rfl) (fun _ _ _ h => h) (Or.inl ⟨by rfl, ?_⟩) hHeld ?_
          rotate_left
          · intro w hSw; (try dsimp only at hSw); go_simp; (try with_reducible rfl)
          simp only [Act.put, List.setIfInBounds_toArray, List.set_cons_zero, List.set_cons_succ]
          refine wpAnyH_take (i := 3) (oi := { dst := some 73, op := Op.binOp BinOp.neq 4 (Operand.tmp 70) (Operand.tmp 72) 4, type := 4, pos := "law.go:66", after := #[{ on := 0, ground := Ground.data }, { on := 2, ground := Ground.data }], guard := none }) (v := ?_) rfl (by kernel_rfl) (by kernel_rfl) (by kernel_rfl) (fun _ _ _ h => h) (Or.inl ⟨by rfl, ?_⟩) hHeld ?_
          rotate_left
          · intro w hSw; (try dsimp only at hSw); go_simp; (try with_reducible rfl)
          simp only [Act.put, List.setIfInBounds_toArray, List.set_cons_zero, List.set_cons_succ]
          refine wpAnyH_take (i := 4) (oi := { dst := some 74, op := Op.move (Operand.tmp 73), type := 4, pos := "law.go:66", after := #[{ on := 3, ground := Ground.data }], guard := none }) (v := ?_) rfl (by kernel_rfl) (by kernel_rfl) (by kernel_rfl) (fun _ _ _ h => h) (Or.inl ⟨by rfl, ?_⟩) hHeld ?_
          rotate_left
          · intro w hSw; (try dsimp only at hSw); go_simp; (try with_reducible rfl)
          simp only [Act.put, List.setIfInBounds_toArray, List.set_cons_zero, List.set_cons_succ]
          refine wpAnyH_take (i := 5) (oi := { dst := some 75, op := Op.move (Operand.tmp 10), type := 4, pos := "law.go:66", after := #[{ on := 4, ground := Ground.guard }], guard := some (4, false) }) (v := ?_) rfl (by kernel_rfl) (by kernel_rfl) (by kernel_rfl) (fun _ _ _ h => h) (Or.inl ⟨by rfl, ?_⟩) hHeld ?_
          rotate_left
          · intro w hSw; (try dsimp only at hSw); go_simp; (try with_reducible rfl)
          simp only [Act.put, List.setIfInBounds_toArray, List.set_cons_zero, List.set_cons_succ]
          refine wpAnyH_take (i := 6) (oi := { dst := some 76, op := Op.move (Operand.tmp 75), type := 4, pos := "law.go:66", after := #[{ on := 5, ground := Ground.data }, { on := 4, ground := Ground.chain }, { on := 4, ground := Ground.guard }], guard := some (4, false) }) (v := ?_) rfl (by kernel_rfl) (by kernel_rfl) (by kernel_rfl) (fun _ _ _ h => h) (Or.inl ⟨by rfl, ?_⟩) hHeld ?_
          rotate_left
          · intro w hSw; (try dsimp only at hSw); go_simp; (try with_reducible rfl)
          simp only [Act.put, List.setIfInBounds_toArray, List.set_cons_zero, List.set_cons_succ]
          refine wpAnyH_take (i := 7) (oi := { dst := some 77, op := Op.load 38 (Operand.tmp 9), type := 38, pos := "law.go:66", after := #[{ on := 6, ground := Ground.guard }], guard := some (6, true) }) (v := ?_) rfl (by kernel_rfl) (by kernel_rfl) (by kernel_rfl) (fun _ _ _ h => h) (Or.inl ⟨by rfl, ?_⟩) hHeld ?_
          rotate_left
          · intro w hSw; (try dsimp only at hSw); go_simp; (try with_reducible rfl)
          simp only [Act.put, List.setIfInBounds_toArray, List.set_cons_zero, List.set_cons_succ]
          refine wpAnyH_take (i := 8) (oi := { dst := some 78, op := Op.move (Operand.tmp 0), type := 22, pos := "law.go:66", after := #[{ on := 6, ground := Ground.guard }], guard := some (6, true) }) (v := ?_) rfl (by kernel_rfl) (by kernel_rfl) (by kernel_rfl) (fun _ _ _ h => h) (Or.inl ⟨by rfl, ?_⟩) hHeld ?_
          rotate_left
          · intro w hSw; (try dsimp only at hSw); go_simp; (try with_reducible rfl)
          simp only [Act.put, List.setIfInBounds_toArray, List.set_cons_zero, List.set_cons_succ]
          refine wpAnyH_take (i := 9) (oi := { dst := some 79, op := Op.move (Operand.tmp 11), type := 3, pos := "law.go:66", after := #[{ on := 6, ground := Ground.guard }], guard := some (6, true) }) (v := ?_) rfl (by kernel_rfl) (by kernel_rfl) (by kernel_rfl) (fun _ _ _ h => h) (Or.inl ⟨by rfl, ?_⟩) hHeld ?_
          rotate_left
          · intro w hSw; (try dsimp only at hSw); go_simp; (try with_reducible rfl)
          simp only [Act.put, List.setIfInBounds_toArray, List.set_cons_zero, List.set_cons_succ]
          refine wpAnyH_take (i := 10) (oi := { dst := some 80, op := Op.indexAddr 22 (Operand.tmp 78) (Operand.tmp 79), type := 0, pos := "law.go:66", after := #[{ on := 8, ground := Ground.data }, { on := 9, ground := Ground.data }, { on := 6, ground := Ground.guard }], guard := some (6, true) }) (v := ?_) rfl (by kernel_rfl) (by kernel_rfl) (by kernel_rfl) (fun _ _ _ h => h) (Or.inl ⟨by rfl, ?_⟩) hHeld ?_
          rotate_left
          · intro w hSw; (try dsimp only at hSw); go_simp; (try with_reducible rfl)
          simp only [Act.put, List.setIfInBounds_toArray, List.set_cons_zero, List.set_cons_succ]
          refine wpAnyH_take (i := 11) (oi := { dst := some 81, op := Op.load 38 (Operand.tmp 80), type := 38, pos := "law.go:66", after := #[{ on := 10, ground := Ground.data }, { on := 6, ground := Ground.guard }], guard := some (6, true) }) (v := ?_) rfl (by kernel_rfl) (by kernel_rfl) (by kernel_rfl) (fun _ _ _ h => h) (Or.inl ⟨by rfl, ?_⟩) hHeld ?_
          rotate_left
          · intro w hSw; (try dsimp only at hSw); go_simp; (try with_reducible rfl)
          simp only [Act.put, List.setIfInBounds_toArray, List.set_cons_zero, List.set_cons_succ]
          refine wpAnyH_ready (rs := [12]) (by kernel_rfl) (by simp) ?_
          refine AllReadyH.cons (o := { dst := some 82, op := Op.call { callee := Callee.value (Operand.func 27), args := #[Operand.tmp 77, Operand.tmp 81], argTypes := #[38, 38] }, type := 4, pos := "law.go:66", after := #[{ on := 7, ground := Ground.data }, { on := 11, ground := Ground.data }, { on := 6, ground := Ground.chain }, { on := 6, ground := Ground.guard }], guard := some (6, true) }) rfl (fun K hK => ?_) AllReadyH.nil
          rw [if_pos (by rfl)]
          go_simp
          refine (HW.out _ INV.out).mono ?_
          rintro e w' ⟨rfl, hf⟩
          have INV := Lib.hid (INV.out.trans (hf.mono INV.out.size (by simp)))
          clear hf
          refine hK.out _ _ (SF.out _ INV.out) (fun hHeld => ?_)
          clear hK K
          try simp only [Act.put, List.setIfInBounds_toArray, List.set_cons_zero, List.set_cons_succ]
          refine wpAnyH_take (i := 13) (oi := { dst := some 83, op := Op.unOp UnOp.not 4 (Operand.tmp 82), type := 4, pos := "law.go:66", after := #[{ on := 12, ground := Ground.data }, { on := 6, ground := Ground.guard }], guard := some (6, true) }) (v := ?_) rfl (by kernel_rfl) (by kernel_rfl) (by kernel_rfl) (fun _ _ _ h => h) (Or.inl ⟨by rfl, ?_⟩) hHeld ?_
          rotate_left
          · intro w hSw; (try dsimp only at hSw); go_simp; (try with_reducible rfl)
          simp only [Act.put, List.setIfInBounds_toArray, List.set_cons_zero, List.set_cons_succ]
          refine wpAnyH_take (i := 14) (oi := { dst := some 84, op := Op.pick (Operand.tmp 76) (Operand.tmp 83) (Operand.const (Value.bool false)), type := 4, pos := "law.go:66", after := #[{ on := 6, ground := Ground.data }, { on := 13, ground := Ground.data }, { on := 4, ground := Ground.guard }], guard := some (4, false) }) (v := ?_) rfl (by kernel_rfl) (by kernel_rfl) (by kernel_rfl) (fun _ _ _ h => h) (Or.inl ⟨by rfl, ?_⟩) hHeld ?_
          rotate_left
          · intro w hSw; (try dsimp only at hSw); go_simp; (try with_reducible rfl)
          simp only [Act.put, List.setIfInBounds_toArray, List.set_cons_zero, List.set_cons_succ]
          refine wpAnyH_take (i := 15) (oi := { dst := some 85, op := Op.pick (Operand.tmp 74) (Operand.const (Value.bool true)) (Operand.tmp 84), type := 4, pos := "law.go:66", after := #[{ on := 4, ground := Ground.data }, { on := 14, ground := Ground.data }], guard := none }) (v := ?_) rfl (by kernel_rfl) (by kernel_rfl) (by kernel_rfl) (fun _ _ _ h => h) (Or.inl ⟨by rfl, ?_⟩) hHeld ?_
          rotate_left
          · intro w hSw; (try dsimp only at hSw); go_simp; (try with_reducible rfl)
          simp only [Act.put, List.setIfInBounds_toArray, List.set_cons_zero, List.set_cons_succ]
          refine wpAnyH_take (i := 16) (oi := { dst := some 86, op := Op.move (Operand.tmp 85), type := 4, pos := "law.go:66", after := #[{ on := 15, ground := Ground.data }, { on := 12, ground := Ground.chain }], guard := none }) (v := ?_) rfl (by kernel_rfl) (by kernel_rfl) (by kernel_rfl) (fun _ _ _ h => h) (Or.inl ⟨by rfl, ?_⟩) hHeld ?_
          rotate_left
          · intro w hSw; (try dsimp only at hSw); go_simp; (try with_reducible rfl)
          simp only [Act.put, List.setIfInBounds_toArray, List.set_cons_zero, List.set_cons_succ]
          refine wpAnyH_take (i := 17) (oi := { dst := some 87, op := Op.move (Operand.tmp 10), type := 4, pos := "law.go:66", after := #[{ on := 16, ground := Ground.guard }], guard := some (16, false) }) (v := ?_) rfl (by kernel_rfl) (by kernel_rfl) (by kernel_rfl) (fun _ _ _ h => h) (Or.inl ⟨by rfl, ?_⟩) hHeld ?_
          rotate_left
          · intro w hSw; (try dsimp only at hSw); go_simp; (try with_reducible rfl)
          simp only [Act.put, List.setIfInBounds_toArray, List.set_cons_zero, List.set_cons_succ]
          refine wpAnyH_take (i := 18) (oi := { dst := some 88, op := Op.unOp UnOp.not 4 (Operand.tmp 87), type := 4, pos := "law.go:66", after := #[{ on := 17, ground := Ground.data }, { on := 16, ground := Ground.guard }], guard := some (16, false) }) (v := ?_) rfl (by kernel_rfl) (by kernel_rfl) (by kernel_rfl) (fun _ _ _ h => h) (Or.inl ⟨by rfl, ?_⟩) hHeld ?_
          rotate_left
          · intro w hSw; (try dsimp only at hSw); go_simp; (try with_reducible rfl)
          simp only [Act.put, List.setIfInBounds_toArray, List.set_cons_zero, List.set_cons_succ]
          refine wpAnyH_take (i := 19) (oi := { dst := some 89, op := Op.move (Operand.tmp 88), type := 4, pos := "law.go:66", after := #[{ on := 18, ground := Ground.data }, { on := 16, ground := Ground.chain }, { on := 16, ground := Ground.guard }], guard := some (16, false) }) (v := ?_) rfl (by kernel_rfl) (by kernel_rfl) (by kernel_rfl) (fun _ _ _ h => h) (Or.inl ⟨by rfl, ?_⟩) hHeld ?_
          rotate_left
          · intro w hSw; (try dsimp only at hSw); go_simp; (try with_reducible rfl)
          simp only [Act.put, List.setIfInBounds_toArray, List.set_cons_zero, List.set_cons_succ]
          refine wpAnyH_take (i := 20) (oi := { dst := some 90, op := Op.load 38 (Operand.tmp 9), type := 38, pos := "law.go:66", after := #[{ on := 19, ground := Ground.guard }], guard := some (19, true) }) (v := undef) rfl (by kernel_rfl) (by kernel_rfl) (by kernel_rfl) (fun _ _ _ h => h) (Or.inr ⟨by rfl, rfl⟩) hHeld ?_
          simp only [Act.put, List.setIfInBounds_toArray, List.set_cons_zero, List.set_cons_succ]
          refine wpAnyH_take (i := 21) (oi := { dst := some 91, op := Op.build 38 #[], type := 38, pos := "law.go:66", after := #[{ on := 19, ground := Ground.guard }], guard := some (19, true) }) (v := undef) rfl (by kernel_rfl) (by kernel_rfl) (by kernel_rfl) (fun _ _ _ h => h) (Or.inr ⟨by rfl, rfl⟩) hHeld ?_
          simp only [Act.put, List.setIfInBounds_toArray, List.set_cons_zero, List.set_cons_succ]
          refine wpAnyH_take (i := 22) (oi := { dst := some 92, op := Op.call { callee := Callee.value (Operand.func 27), args := #[Operand.tmp 90, Operand.tmp 91], argTypes := #[38, 38] }, type := 4, pos := "law.go:66", after := #[{ on := 20, ground := Ground.data }, { on := 21, ground := Ground.data }, { on := 19, ground := Ground.chain }, { on := 19, ground := Ground.guard }], guard := some (19, true) }) (v := undef) rfl (by kernel_rfl) (by kernel_rfl) (by kernel_rfl) (fun _ _ _ h => h) (Or.inr ⟨by rfl, rfl⟩) hHeld ?_
          simp only [Act.put, List.setIfInBounds_toArray, List.set_cons_zero, List.set_cons_succ]
          refine wpAnyH_take (i := 23) (oi := { dst := some 93, op := Op.unOp UnOp.not 4 (Operand.tmp 92), type := 4, pos := "law.go:66", after := #[{ on := 22, ground := Ground.data }, { on := 19, ground := Ground.guard }], guard := some (19, true) }) (v := undef) rfl (by kernel_rfl) (by kernel_rfl) (by kernel_rfl) (fun _ _ _ h => h) (Or.inr ⟨by rfl, rfl⟩) hHeld ?_
          simp only [Act.put, List.setIfInBounds_toArray, List.set_cons_zero, List.set_cons_succ]
          refine wpAnyH_take (i := 24) (oi := { dst := some 94, op := Op.pick (Operand.tmp 89) (Operand.tmp 93) (Operand.const (Value.bool false)), type := 4, pos := "law.go:66", after := #[{ on := 19, ground := Ground.data }, { on := 23, ground := Ground.data }, { on := 16, ground := Ground.guard }], guard := some (16, false) }) (v := ?_) rfl (by kernel_rfl) (by kernel_rfl) (by kernel_rfl) (fun _ _ _ h => h) (Or.inl ⟨by rfl, ?_⟩) hHeld ?_
          rotate_left
          · intro w hSw; (try dsimp only at hSw); go_simp; (try with_reducible rfl)
          simp only [Act.put, List.setIfInBounds_toArray, List.set_cons_zero, List.set_cons_succ]
          refine wpAnyH_take (i := 25) (oi := { dst := some 95, op := Op.pick (Operand.tmp 86) (Operand.const (Value.bool true)) (Operand.tmp 94), type := 4, pos := "law.go:66", after := #[{ on := 16, ground := Ground.data }, { on := 24, ground := Ground.data }], guard := none }) (v := ?_) rfl (by kernel_rfl) (by kernel_rfl) (by kernel_rfl) (fun _ _ _ h => h) (Or.inl ⟨by rfl, ?_⟩) hHeld ?_
          rotate_left
          · intro w hSw; (try dsimp only at hSw); go_simp; (try with_reducible rfl)
          simp only [Act.put, List.setIfInBounds_toArray, List.set_cons_zero, List.set_cons_succ]
          refine wpAnyH_done (by kernel_rfl) ?_ _
          go_wp2_with fail
          go_meet
          exact ⟨rfl, INV⟩
      case rest =>
        obtain ⟨rfl, FX⟩ := hcut
        have GX := Lib.hid (G8.out.trans (FX.out.mono (B' := w4.heap.size) (L' := []) G8.out.size (by simp)))
        have FWX := Lib.hid (FW8.out.trans (FX.out.mono (B' := w.heap.size) (L' := []) FW8.out.size (by simp)))
        clear FX G8 FW8 BX HIN HX HOB HSMX HRF HIX FW GR hkn
        obtain ⟨cv, hcv⟩ : ∃ v, v = checkN L := ⟨_, rfl⟩
        obtain ⟨cv2, hcv2⟩ : ∃ v, v = checkN L2 := ⟨_, rfl⟩
        have HC := Lib.hid (fun (wx : World) (hx : Fr w.heap.size [] w wx) => (by
          have := gcheck_any A c w.heap.size k M wx (H.out.frw hx (Nat.le_refl _) (by simp)) hx.size HS.out
          rw [← HL.out, ← hcv] at this
          exact this : Calls Try.prog 15 #[.slice A k c] wx fun e w' => e = .returned (.int .i64 cv) ∧ Fr wx.heap.size [] wx w'))
        have HC2 := Lib.hid (fun (wx : World) (hx : Fr w.heap.size [] w wx) => (by
          have := gcheck_any A2 c2 w.heap.size n2 K wx (H2.out.frw hx (Nat.le_refl _) (by simp)) hx.size HS2.out
          rw [← HL2.out, ← hcv2] at this
          exact this : Calls Try.prog 15 #[.slice A2 n2 c2] wx fun e w' => e = .returned (.int .i64 cv2) ∧ Fr wx.heap.size [] wx w'))
        have HSAME := Lib.hid (fun (wx : World) (hx : Fr w.heap.size [] w wx) => (by
          have := gsame_any A A2 c c2 w.heap.size k n2 M K wx (H.out.frw hx (Nat.le_refl _) (by simp)) (H2.out.frw hx (Nat.le_refl _) (by simp)) hx.size HS.out HS2.out hn20 hn220
          rw [← HL.out, ← HL2.out] at this
          exact this : Calls Try.prog 24 #[.slice A k c, .slice A2 n2 c2] wx fun e w' => e = .returned (.bool (sameL L L2)) ∧ Fr wx.heap.size [] wx w'))
        have HRS := Lib.hid (fun (wx : World) (hx : Fr w.heap.size [] w wx) => (by
          have := rsame_any A A2 c c2 w.heap.size k n2 M K wx (H.out.frw hx (Nat.le_refl _) (by simp)) (H2.out.frw hx (Nat.le_refl _) (by simp)) hx.size HS.out HS2.out
          rw [← HL.out, ← HL2.out] at this
          exact this : Calls Try.prog 28 #[.slice A k c, .slice A2 n2 c2] wx fun e w' => e = .returned (.bool (rsameL L L2)) ∧ Fr wx.heap.size [] wx w'))
        have HRT := Lib.hid (fun (h1 : cv = 0) (h2 : cv2 = 0) => (same_right (checkN_zero.1 (hcv.symm.trans h1)).uni (checkN_zero.1 (hcv2.symm.trans h2)).uni : sameL L L2 = rsameL L L2))
        obtain ⟨sv, hsv⟩ : ∃ v, v = sameL L L2 := ⟨_, rfl⟩
        obtain ⟨rv, hrv⟩ : ∃ v, v = rsameL L L2 := ⟨_, rfl⟩
        rw [← hsv, ← hrv] at HRT
        rw [← hsv] at HSAME
        rw [← hrv] at HRS
        clear hcv hcv2 hsv hrv
        go_upto_region 18 with fail
        go_cut [112] (fun s wx => s = .bool false ∧ RowKit.Hid (Fr w4.heap.size [] w4 wx))
        case first =>
          by_cases e1 : cv = 0
          case neg =>
            have e2 : (cv == 0) = false := by simpa using e1
            go_wp2_with fail
            refine (HC.out wc FWX.out).mono ?_
            rintro e w9 ⟨rfl, f9⟩
            have G9 := Lib.hid (GX.out.trans (f9.mono (B' := w4.heap.size) (L' := []) GX.out.size (by simp)))
            clear f9
            go_wp2_with fail
            go_meet
            exact ⟨rfl, G9⟩
          subst e1
          by_cases e1 : cv2 = 0
          case neg =>
            have e2 : (cv2 == 0) = false := by simpa using e1
            go_wp2_with fail
            refine (HC.out wc FWX.out).mono ?_
            rintro e w9 ⟨rfl, f9⟩
            have G9 := Lib.hid (GX.out.trans (f9.mono (B' := w4.heap.size) (L' := []) GX.out.size (by simp)))
            have F9 := Lib.hid (FWX.out.trans (f9.mono (B' := w.heap.size) (L' := []) FWX.out.size (by simp)))
            clear f9
            go_wp2_with fail
            refine (HC2.out w9 F9.out).mono ?_
            rintro e w10 ⟨rfl, f9⟩
            have G10 := Lib.hid (G9.out.trans (f9.mono (B' := w4.heap.size) (L' := []) G9.out.size (by simp)))
            clear f9
            go_wp2_with fail
            go_meet
            exact ⟨rfl, G10⟩
          subst e1
          obtain rfl : sv = rv := HRT.out rfl rfl
          have hne : (sv != sv) = false := by simp
          go_wp2_with fail
          refine (HC.out wc FWX.out).mono ?_
          rintro e w9 ⟨rfl, f9⟩
          have G9 := Lib.hid (GX.out.trans (f9.mono (B' := w4.heap.size) (L' := []) GX.out.size (by simp)))
          have F9 := Lib.hid (FWX.out.trans (f9.mono (B' := w.heap.size) (L' := []) FWX.out.size (by simp)))
          clear f9
          go_wp2_with fail
          refine (HC2.out w9 F9.out).mono ?_
          rintro e w10 ⟨rfl, f9⟩
          have G10 := Lib.hid (G9.out.trans (f9.mono (B' := w4.heap.size) (L' := []) G9.out.size (by simp)))
          have F10 := Lib.hid (F9.out.trans (f9.mono (B' := w.heap.size) (L' := []) F9.out.size (by simp)))
          clear f9
          go_wp2_with fail
          refine (HSAME.out w10 F10.out).mono ?_
          rintro e w11 ⟨rfl, f9⟩
          have G11 := Lib.hid (G10.out.trans (f9.mono (B' := w4.heap.size) (L' := []) G10.out.size (by simp)))
          have F11 := Lib.hid (F10.out.trans (f9.mono (B' := w.heap.size) (L' := []) F10.out.size (by simp)))
          clear f9
          go_wp2_with fail
          refine (HRS.out w11 F11.out).mono ?_
          rintro e w12 ⟨rfl, f9⟩
          have G12 := Lib.hid (G11.out.trans (f9.mono (B' := w4.heap.size) (L' := []) G11.out.size (by simp)))
          clear f9
          go_wp2_with fail
          go_meet
          exact ⟨rfl, G12⟩
        case rest =>
          obtain ⟨rfl, GY⟩ := hcut
          have FWY := Lib.hid (F4.out.trans (GY.out.mono (B' := w.heap.size) (L' := []) F4.out.size (by simp)))
          have HMY := Lib.hid (HM3.out.frd GY.out (by simp))
          clear HC HC2 HSAME HRS HRT GX FWX HM3
          rcases Nat.eq_zero_or_pos k with h0 | h0
          · subst h0
            go_wp2_with fail
            go_ret
            exact ⟨rfl, FWY.out.below⟩
          · obtain ⟨g, cap, hv, hbg, hlt⟩ := HMY.out.own.form h0
            injection hv with hv1 _ hv3
            subst hv1
            subst hv3
            match M3, HF3, HSM3, HMY with
            | [], _, _, HMY => have := HMY.out.num; simp at this; omega
            | (x, sf, sp) :: t, HF3, HSM3, HMY =>
            have hk1 : (0 : Int) < (k : Int) := by omega
            have c4 := nd_cell HMY.out.own (k := 0) rfl 4 (.int .i64 x.par) rfl
            have z4 := HMY.out.own.frozenAt 4
            simp at c4
            obtain ⟨pr, hpr⟩ : ∃ p, p = x.par := ⟨_, rfl⟩
            rw [← hpr] at c4
            have hne : IntKind.i64.wrap (pr + 1) ≠ x.par := by rw [IntKind.wrap_i64, ← hpr]; omega
            have HNE := Lib.hid hne
            obtain ⟨p', hp'⟩ : ∃ p, p = IntKind.i64.wrap (pr + 1) := ⟨_, rfl⟩
            have hp2 : IntKind.i64.wrap (pr + 1) = p' := hp'.symm
            have HNE := Lib.hid (show p' ≠ x.par by rw [hp']; exact hne)
            have HM5 := Lib.hid (HMY.out.setPar p')
            have hfs := (Fr.refl wc.heap.size [g] wc).setCell (p := ⟨g, 4, none⟩) (.inr (by simp)) (.int .i64 p')
            have FW5 := Lib.hid (FWY.out.trans (hfs.mono (B' := w.heap.size) (L' := []) FWY.out.size (by intro q hq hlt; simp at hq; have := HZ3.out; omega)))
            have HS5 := Lib.hid (show Small ((parN x p', sf, sp) :: t) from ⟨by have := HSM3.out.1; simpa using this, fun m hm => by
              rcases List.mem_cons.1 hm with rfl | hm
              · exact HSM3.out.2 (x, sf, sp) List.mem_cons_self
              · exact HSM3.out.2 m (List.mem_cons_of_mem _ hm)⟩)
            have HSC := (by
              have hz : wc.heap.size = (wc.setCell ⟨g, 4, none⟩ (.int .i64 p')).heap.size := by simp [World.setCell]
              have := gsame_any A (some ⟨g, 0, none⟩) c c3 (wc.setCell ⟨g, 4, none⟩ (.int .i64 p')).heap.size k k M ((parN x p', sf, sp) :: t) (wc.setCell ⟨g, 4, none⟩ (.int .i64 p')) ((H.out.frw FW5.out (Nat.le_refl _) (by simp)).more FW5.out.size) (HM5.out.nds (Fr.refl _ [] _) (by simp)) (Nat.le_refl _) HS.out HS5.out hn20 hn20
              rw [show sameL (fstN M) (fstN ((parN x p', sf, sp) :: t)) = false by
                rw [← HL.out]
                have h0 : normL L = x :: fstN t := HF3.out.symm
                exact unlike_par h0 HNE.out] at this
              exact this : Calls Try.prog 24 #[.slice A k c, .slice (some ⟨g, 0, none⟩) k c3] (wc.setCell ⟨g, 4, none⟩ (.int .i64 p')) fun e w' => e = .returned (.bool false) ∧ Fr (wc.setCell ⟨g, 4, none⟩ (.int .i64 p')).heap.size [] (wc.setCell ⟨g, 4, none⟩ (.int .i64 p')) w')
            have HSC := Lib.hid HSC
            clear hfs hne hp' hpr HM5 HS5 HMY hbg hlt
            go_wp2_with fail
            refine HSC.out.mono ?_
            rintro e w13 ⟨rfl, f13⟩
            have FE := Lib.hid (FW5.out.trans (f13.mono (B' := w.heap.size) (L' := []) FW5.out.size (by simp)))
            clear f13
            go_wp2_with fail
            go_ret
            exact ⟨rfl, FE.out.below⟩
end Go.Proofs.Ytddngibfhklnfaa
