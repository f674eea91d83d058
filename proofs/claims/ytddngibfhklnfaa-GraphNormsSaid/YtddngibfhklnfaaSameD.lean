/- Two nodes compared by the document: forebayref08.Node. -/
import Derived.Test.YtddngibfhklnfaaSameB
import Derived.Test.YtddngibfhklnfaaRfB
namespace Go.Proofs.Ytddngibfhklnfaa
open Go.RowKit Go.Fb
set_option maxRecDepth 100000 in
set_option maxHeartbeats 4000000 in
theorem rnode_any (x y : Nd) (sf sp tf tp : Value) (B : Nat) (w : World) (h : NdIn w B (x, sf, sp)) (h' : NdIn w B (y, tf, tp)) (hB : B ≤ w.heap.size) (h1 : x.fr.length ≤ 1000000 ∧ x.pg.length ≤ 1000000) (h2 : y.fr.length ≤ 1000000 ∧ y.pg.length ≤ 1000000) :
    Calls Try.prog 27 #[.agg (ndA x sf sp), .agg (ndA y tf tp)] w fun e w' => e = .returned (.bool (sameNd x y)) ∧ Fr w.heap.size [] w w' := by
  obtain ⟨⟨Af, cf, hf1, hf2⟩, ⟨Ap, cp, hp1, hp2⟩⟩ := h
  obtain ⟨⟨Bf, df, kf1, kf2⟩, ⟨Bp, dp, kp1, kp2⟩⟩ := h'
  simp only at hf1 hf2 hp1 hp2 kf1 kf2 kp1 kp2
  subst hf1
  subst hp1
  subst kf1
  subst kp1
  have HFR := fun (wx : World) (hx : Fr w.heap.size [] w wx) => And.intro (hf2.fr hx hB (by simp)) (kf2.fr hx hB (by simp))
  have HPG := fun (wx : World) (hx : Fr w.heap.size [] w wx) => rpsame_any Ap Bp cp dp B x.pg.length y.pg.length x.pg y.pg wx rfl rfl h1.2 h2.2 (hp2.fr hx hB (by simp)) (kp2.fr hx hB (by simp))
  obtain ⟨nf, hnf⟩ : ∃ z, z = x.fr.length := ⟨_, rfl⟩
  obtain ⟨np, hnp⟩ : ∃ z, z = x.pg.length := ⟨_, rfl⟩
  obtain ⟨mf, hmf⟩ : ∃ z, z = y.fr.length := ⟨_, rfl⟩
  obtain ⟨mp, hmp⟩ : ∃ z, z = y.pg.length := ⟨_, rfl⟩
  obtain ⟨fb, hfb⟩ : ∃ b, b = decide (x.fr = y.fr) := ⟨_, rfl⟩
  obtain ⟨pb, hpb⟩ : ∃ b, b = decide (x.pg = y.pg) := ⟨_, rfl⟩
  obtain ⟨rb, hrb⟩ : ∃ b, b = rt8B x.rt y.rt := ⟨_, rfl⟩
  obtain ⟨vb, hvb⟩ : ∃ b, b = sameNd x y := ⟨_, rfl⟩
  rw [← hnf, ← hmf] at HFR
  rw [← hnp, ← hmp, ← hpb] at HPG
  rw [← hnf, ← hmf, ← hnp, ← hmp, ← hvb]
  have HV := Lib.hid (show vb = (decide (x.id = y.id) && (decide (x.kind = y.kind) && (decide (x.par = y.par) && (rb && (fb && pb))))) by rw [hvb, hrb, hfb, hpb]; rfl)
  have HFB := Lib.hid hfb
  have HNF := Lib.hid hnf
  have HMF := Lib.hid hmf
  have hnf1 : nf ≤ 1000000 := by rw [hnf]; exact h1.1
  have hmf1 : mf ≤ 1000000 := by rw [hmf]; exact h2.1
  have hq8 := fun w => eql8 x.rt y.rt w
  rw [← hrb] at hq8
  have HFR := Lib.hid HFR
  have HPG := Lib.hid HPG
  have BX := Lib.hid ((Blk.new w 38 (ndA x (.slice Af nf cf) (.slice Ap np cp))).alloc (.cells (ndA y (.slice Bf mf df) (.slice Bp mp dp)) 38))
  have BY0 := Blk.new (w.alloc (.cells (ndA x (.slice Af nf cf) (.slice Ap np cp)) 38)) 38 (ndA y (.slice Bf mf df) (.slice Bp mp dp))
  rw [World.size_alloc] at BY0
  have BY := Lib.hid BY0
  have F1 := Lib.hid (((Fr.refl w.heap.size [] w).alloc (Nat.le_refl _) (.cells (ndA x (.slice Af nf cf) (.slice Ap np cp)) 38)).alloc (by simp) (.cells (ndA y (.slice Bf mf df) (.slice Bp mp dp)) 38))
  clear BY0 hf2 hp2 kf2 kp2 hnf hnp hmf hmp hfb hpb hrb hvb h1 h2
  go_enter Try.func27, Try.ntmps27
  go_upto_region 1 with fail
  generalize (w.alloc _).alloc _ = w1 at *
  by_cases hne : nf = mf
  case neg =>
    have a2 := BX.out.cell 2
    have b2 := BY.out.cell 2
    simp at a2 b2
    have hv : vb = false := by
      have : fb = false := by rw [HFB.out]; exact decide_eq_false fun h => hne (by rw [HNF.out, HMF.out, h])
      rw [HV.out, this]; simp
    have H := Lib.hid hv
    have he : ((nf : Int) != (mf : Int)) = true := by simp; omega
    clear hv
    go_wp2_with fail
    go_ret
    exact ⟨by rw [H.out]; rfl, F1.out⟩
  subst hne
  have a2 := BX.out.cell 2
  have b2 := BY.out.cell 2
  simp at a2 b2
  go_wp2_with fail
  go_loopg [5] nf (fun g s5 wr => ∃ k : Nat, k ≤ nf ∧ g = nf - k ∧ s5 = .int .i64 k ∧ RowKit.Hid (∀ j, j < k → x.fr[j]? = y.fr[j]?) ∧ RowKit.Hid (Fr w.heap.size [] w wr) ∧ RowKit.Hid (Blk wr w.heap.size 38 (ndA x (.slice Af nf cf) (.slice Ap np cp))) ∧ RowKit.Hid (Blk wr (w.heap.size + 1) 38 (ndA y (.slice Bf nf df) (.slice Bp mp dp))))
  case atStart => exact ⟨0, Nat.zero_le _, rfl, rfl, Lib.hid (fun j h => absurd h (Nat.not_lt_zero _)), F1, BX, BY⟩
  case round =>
    obtain ⟨k, hk, rfl, rfl, HB, F1, BX, BY⟩ := hrel
    by_cases hkn : k < nf
    · have hki : (k : Int) < (nf : Int) := by omega
      have hk0 : (0 : Int) ≤ (k : Int) := by omega
      obtain ⟨r1, r2⟩ := HFR.out wr F1.out
      obtain ⟨c1, o1, u1, rfl, hc1, hu1, hcc1⟩ := r1.one hkn
      obtain ⟨c2, o2, u2, rfl, hc2, hu2, hcc2⟩ := r2.one hkn
      obtain ⟨u, hx⟩ : ∃ u, x.fr[k]? = some u := ⟨_, List.getElem?_eq_getElem (by rw [← HNF.out]; exact hkn)⟩
      obtain ⟨v, hy⟩ : ∃ v, y.fr[k]? = some v := ⟨_, List.getElem?_eq_getElem (by rw [← HMF.out]; exact hkn)⟩
      rw [List.getElem?_map, hx] at hu1
      rw [List.getElem?_map, hy] at hu2
      simp at hu1 hu2
      subst hu1
      subst hu2
      have HX := Lib.hid hx
      have HY := Lib.hid hy
      have a2 := BX.out.cell 2
      have b2 := BY.out.cell 2
      simp at a2 b2
      clear hx hy r1 r2 hc1 hc2
      by_cases e : u = v
      · have he : (u != v) = false := by simpa using e
        have HB2 := Lib.hid (show ∀ j, j < k + 1 → x.fr[j]? = y.fr[j]? from fun j hj => by
          by_cases e2 : j = k
          · subst e2; rw [HX.out, HY.out, e]
          · exact HB.out j (by omega))
        clear e
        go_wp2_with fail
        go_quiet (fail)
        go_wp2_with fail
        go_roundg (nf - (k + 1))
        case measure => omega
        case rel => exact ⟨k + 1, by omega, rfl, by go_num, HB2, Lib.hid (F1.out.drewN _), Lib.hid (BX.out.drewN _), Lib.hid (BY.out.drewN _)⟩
      · have he : (u != v) = true := by simpa using e
        have hv : vb = false := by
          have : fb = false := by
            rw [HFB.out]
            refine decide_eq_false fun h => e ?_
            have := HX.out
            rw [h, HY.out] at this
            injection this with this
            exact this.symm
          rw [HV.out, this]; simp
        have H := Lib.hid hv
        clear hv e
        go_wp2_with fail
        go_quiet (fail)
        go_wp2_with fail
        go_ret
        exact ⟨by rw [H.out]; rfl, F1.out.drewN _⟩
    · obtain rfl : k = nf := by omega
      have hfb : fb = true := by
        rw [HFB.out]
        refine decide_eq_true (List.ext_getElem? fun j => ?_)
        by_cases hj : j < k
        · exact HB.out j hj
        · rw [List.getElem?_eq_none (by rw [← HNF.out]; omega), List.getElem?_eq_none (by rw [← HMF.out]; omega)]
      subst hfb
      clear a2 b2
      have a0 := BX.out.cell 0
      have a1 := BX.out.cell 1
      have a2 := BX.out.cell 2
      have a3 := BX.out.cell 3
      have a4 := BX.out.cell 4
      have a5 := BX.out.cell 5
      have a6 := BX.out.cell 6
      have a7 := BX.out.cell 7
      have a8 := BX.out.cell 8
      have a9 := BX.out.cell 9
      have a10 := BX.out.cell 10
      have a11 := BX.out.cell 11
      have a12 := BX.out.cell 12
      simp at a0 a1 a2 a3 a4 a5 a6 a7 a8 a9 a10 a11 a12
      have b0 := BY.out.cell 0
      have b1 := BY.out.cell 1
      have b2 := BY.out.cell 2
      have b3 := BY.out.cell 3
      have b4 := BY.out.cell 4
      have b5 := BY.out.cell 5
      have b6 := BY.out.cell 6
      have b7 := BY.out.cell 7
      have b8 := BY.out.cell 8
      have b9 := BY.out.cell 9
      have b10 := BY.out.cell 10
      have b11 := BY.out.cell 11
      have b12 := BY.out.cell 12
      simp at b0 b1 b2 b3 b4 b5 b6 b7 b8 b9 b10 b11 b12
      by_cases e0 : x.id = y.id
      case neg =>
        have hv : vb = false := by rw [HV.out, decide_eq_false e0]; rfl
        have H := Lib.hid hv
        have he : (x.id == y.id) = false := by simpa using e0
        clear hv HV e0
        go_wp2_with fail
        go_ret
        exact ⟨by rw [H.out]; rfl, F1.out⟩
      by_cases e1 : x.kind = y.kind
      case neg =>
        have hv : vb = false := by rw [HV.out, decide_eq_false e1]; simp
        have H := Lib.hid hv
        have he : (x.id == y.id) = true := by simpa using e0
        have he1 : (x.kind == y.kind) = false := by simpa using e1
        clear hv HV e0 e1
        go_wp2_with fail
        go_ret
        exact ⟨by rw [H.out]; rfl, F1.out⟩
      by_cases e2 : x.par = y.par
      case neg =>
        have hv : vb = false := by rw [HV.out, decide_eq_false e2]; simp
        have H := Lib.hid hv
        have he : (x.id == y.id) = true := by simpa using e0
        have he1 : (x.kind == y.kind) = true := by simpa using e1
        have he2 : (x.par == y.par) = false := by simpa using e2
        clear hv HV e0 e1 e2
        go_wp2_with fail
        go_ret
        exact ⟨by rw [H.out]; rfl, F1.out⟩
      have hv : vb = (rb && pb) := by rw [HV.out, decide_eq_true e0, decide_eq_true e1, decide_eq_true e2]; simp
      have H := Lib.hid hv
      have he : (x.id == y.id) = true := by simpa using e0
      have he1 : (x.kind == y.kind) = true := by simpa using e1
      have he2 : (x.par == y.par) = true := by simpa using e2
      clear hv HV e0 e1 e2
      cases rb with
      | false =>
        have hv : vb = false := by rw [H.out]; rfl
        have H := Lib.hid hv
        clear hv
        go_wp2_with fail
        go_ret
        exact ⟨by rw [H.out]; rfl, F1.out⟩
      | true =>
        have hv : vb = pb := by rw [H.out]; rfl
        have H := Lib.hid hv
        clear hv
        go_wp2_with fail
        refine (HPG.out _ F1.out).mono ?_
        rintro e w3 ⟨rfl, f3⟩
        have F3 := Lib.hid (F1.out.trans (f3.mono (B' := w.heap.size) (L' := []) F1.out.size (by simp)))
        clear f3
        go_wp2_with fail
        go_ret
        exact ⟨by rw [H.out]; rfl, F3.out⟩
end Go.Proofs.Ytddngibfhklnfaa
