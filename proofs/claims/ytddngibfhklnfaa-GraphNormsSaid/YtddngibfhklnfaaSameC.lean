/- slices.EqualFunc on nodes, and graph.Same. -/
import Derived.Test.YtddngibfhklnfaaSameB
namespace Go.Proofs.Ytddngibfhklnfaa
open Go.RowKit Go.Fb
/-- Are two lists of nodes one, node by node? -/
def eqL (L K : List Nd) : Bool := decide (L.length = K.length) && (L.zip K).all fun p => sameNd p.1 p.2
def sameL (L K : List Nd) : Bool := eqL (normL L) (normL K)
theorem eqL_no {L K : List Nd} (h : L.length ≠ K.length) : eqL L K = false := by unfold eqL; rw [decide_eq_false h]; rfl
theorem eqL_bad {L K : List Nd} {k : Nat} {x y : Nd} (hx : L[k]? = some x) (hy : K[k]? = some y) (h : sameNd x y = false) : eqL L K = false := by
  unfold eqL
  rw [Bool.and_eq_false_iff]
  right
  rw [List.all_eq_false]
  refine ⟨(x, y), ?_, by simp [h]⟩
  refine List.mem_of_getElem? (i := k) ?_
  rw [List.getElem?_zip_eq_some]
  exact ⟨hx, hy⟩
theorem eqL_good {L K : List Nd} (hl : L.length = K.length) (h : ∀ (k : Nat) (x y : Nd), L[k]? = some x → K[k]? = some y → sameNd x y = true) : eqL L K = true := by
  unfold eqL
  rw [decide_eq_true hl, Bool.true_and, List.all_eq_true]
  rintro ⟨x, y⟩ hm
  obtain ⟨k, hk⟩ := List.getElem?_of_mem hm
  rw [List.getElem?_zip_eq_some] at hk
  exact h k x y hk.1 hk.2
set_option maxRecDepth 100000 in
set_option maxHeartbeats 4000000 in
theorem equalf_any (A A2 : Option Addr) (c c2 B n n2 : Nat) (M K : List Ndm) (w : World) (h : Nds w B A n M) (h2 : Nds w B A2 n2 K) (hB : B ≤ w.heap.size) (hs : Small M) (hs2 : Small K) :
    Calls Try.prog 57 #[.slice A n c, .slice A2 n2 c2, .func (.func 58) #[] #[]] w fun e w' => e = .returned (.bool (eqL (fstN M) (fstN K))) ∧ Fr w.heap.size [] w w' := by
  have H := Lib.hid h
  have H2 := Lib.hid h2
  have HS := Lib.hid hs
  have HS2 := Lib.hid hs2
  have hm : n ≤ 1000000 := by rw [h.num]; exact hs.1
  have hm2 : n2 ≤ 1000000 := by rw [h2.num]; exact hs2.1
  obtain ⟨vb, hvb⟩ : ∃ b, b = eqL (fstN M) (fstN K) := ⟨_, rfl⟩
  rw [← hvb]
  have HV := Lib.hid hvb
  have hent := enters_of Try.func58 (by kernel_rfl) rfl
  clear h h2 hs hs2 hvb
  by_cases hne : n = n2
  case neg =>
    have hv : vb = false := by
      rw [HV.out]
      refine eqL_no ?_
      have h1 := H.out.num
      have h2 := H2.out.num
      simp [fstN]
      omega
    have HVV := Lib.hid hv
    have he : ((n : Int) != (n2 : Int)) = true := by simp; omega
    clear hv
    go_enter Try.func57, Try.ntmps57
    go_wp2_with fail
    go_ret
    exact ⟨by rw [HVV.out]; rfl, Fr.refl _ _ _⟩
  subst hne
  go_enter Try.func57, Try.ntmps57
  go_wp2_with fail
  go_loopg [17] n (fun g s17 wr => ∃ k : Nat, k ≤ n ∧ g = n - k ∧ s17 = .int .i64 k ∧ RowKit.Hid (∀ (j : Nat) (x y : Nd), j < k → (fstN M)[j]? = some x → (fstN K)[j]? = some y → sameNd x y = true) ∧ RowKit.Hid (Fr w.heap.size [] w wr))
  case atStart => exact ⟨0, Nat.zero_le _, rfl, rfl, Lib.hid (fun j x y h => absurd h (Nat.not_lt_zero _)), Lib.hid (Fr.refl _ _ _)⟩
  case round =>
    obtain ⟨k, hk, rfl, rfl, HB, FR⟩ := hrel
    by_cases hkn : k < n
    · have hki : (k : Int) < (n : Int) := by omega
      have hk0 : (0 : Int) ≤ (k : Int) := by omega
      obtain ⟨m, hx⟩ : ∃ m, M[k]? = some m := ⟨_, List.getElem?_eq_getElem (by rw [← H.out.num]; exact hkn)⟩
      obtain ⟨m2, hx2⟩ : ∃ m, K[k]? = some m := ⟨_, List.getElem?_eq_getElem (by rw [← H2.out.num]; exact hkn)⟩
      have HND := H.out.frw FR.out hB (by simp)
      have HND2 := H2.out.frw FR.out hB (by simp)
      obtain ⟨b1, o1, rfl, hb1, hc1⟩ := HND.get hx
      obtain ⟨b2, o2, rfl, hb2, hc2⟩ := HND2.get hx2
      have hin := HND.inn m (List.mem_of_getElem? hx)
      have hin2 := HND2.inn m2 (List.mem_of_getElem? hx2)
      have hsm := HS.out.2 m (List.mem_of_getElem? hx)
      have hsm2 := HS2.out.2 m2 (List.mem_of_getElem? hx2)
      have HX := Lib.hid (show (fstN M)[k]? = some m.1 by simp [fstN, hx])
      have HX2 := Lib.hid (show (fstN K)[k]? = some m2.1 by simp [fstN, hx2])
      obtain ⟨x, sf, sp⟩ := m
      obtain ⟨y, tf, tp⟩ := m2
      simp only at hsm hsm2 HX HX2
      have hBr : B ≤ wr.heap.size := Nat.le_trans hB FR.out.size
      have fa := ((Fr.refl wr.heap.size [] wr).alloc (Nat.le_refl _) (.cells (ndA x sf sp) 38)).alloc (by simp) (.cells (ndA y tf tp) 38)
      have HW := alike_any x y sf sp tf tp B ((wr.alloc (.cells (ndA x sf sp) 38)).alloc (.cells (ndA y tf tp) 38)) (hin.frw fa hBr (by simp)) (hin2.frw fa hBr (by simp)) (Nat.le_trans hBr fa.size) hsm hsm2
      obtain ⟨sb, hsb⟩ : ∃ b, b = sameNd x y := ⟨_, rfl⟩
      rw [← hsb] at HW
      have HSB := Lib.hid hsb
      have HW := Lib.hid HW
      have BX := Lib.hid ((Blk.new wr 38 (ndA x sf sp)).alloc (.cells (ndA y tf tp) 38))
      have BY0 := Blk.new (wr.alloc (.cells (ndA x sf sp) 38)) 38 (ndA y tf tp)
      rw [World.size_alloc] at BY0
      have BY := Lib.hid BY0
      have FRa := Lib.hid (FR.out.trans (fa.mono (B' := w.heap.size) (L' := []) FR.out.size (by simp)))
      obtain ⟨⟨Af, cf, hf1, _⟩, ⟨Ap, cp, hp1, _⟩⟩ := hin
      obtain ⟨⟨Bf, df, kf1, _⟩, ⟨Bp, dp, kp1, _⟩⟩ := hin2
      simp only at hf1 hp1 kf1 kp1
      subst hf1
      subst hp1
      subst kf1
      subst kp1
      obtain ⟨g0, g1, g2, g3, g4, g5, g6, g7, g8, g9, g10, g11, g12⟩ := ndL_get (x, .slice Af x.fr.length cf, .slice Ap x.pg.length cp)
      have p0 := hc1 0 _ g0
      have p1 := hc1 1 _ g1
      have p2 := hc1 2 _ g2
      have p3 := hc1 3 _ g3
      have p4 := hc1 4 _ g4
      have p5 := hc1 5 _ g5
      have p6 := hc1 6 _ g6
      have p7 := hc1 7 _ g7
      have p8 := hc1 8 _ g8
      have p9 := hc1 9 _ g9
      have p10 := hc1 10 _ g10
      have p11 := hc1 11 _ g11
      have p12 := hc1 12 _ g12
      simp only [Nat.add_zero] at p0
      have fa1 := (Fr.refl wr.heap.size [] wr).alloc (Nat.le_refl _) (.cells (ndA x (.slice Af x.fr.length cf) (.slice Ap x.pg.length cp)) 38)
      have hc3 : ∀ j u, (ndL (y, .slice Bf y.fr.length df, .slice Bp y.pg.length dp))[j]? = some u → (wr.alloc (.cells (ndA x (.slice Af x.fr.length cf) (.slice Ap x.pg.length cp)) 38)).cell? ⟨b2, o2 + k * 13 + j, none⟩ = some u := fun j u hu => (fa1.cell (p := ⟨b2, o2 + k * 13 + j, none⟩) (Nat.lt_of_lt_of_le hb2 hBr) (by simp)).trans (hc2 j u hu)
      clear fa1
      go_upto_region 6 with fail
      clear p0 p1 p2 p3 p4 p5 p6 p7 p8 p9 p10 p11 p12
      generalize hw5 : wr.alloc (.cells (ndA x (.slice Af x.fr.length cf) (.slice Ap x.pg.length cp)) 38) = w5 at *
      have hz5 : w5.heap.size = wr.heap.size + 1 := by rw [← hw5]; simp
      have HZ5 := Lib.hid hz5
      clear hw5 hz5
      obtain ⟨h0, h1, h2, h3, h4, h5, h6, h7, h8, h9, h10, h11, h12⟩ := ndL_get (y, .slice Bf y.fr.length df, .slice Bp y.pg.length dp)
      have r0 := hc3 0 _ h0
      have r1 := hc3 1 _ h1
      have r2 := hc3 2 _ h2
      have r3 := hc3 3 _ h3
      have r4 := hc3 4 _ h4
      have r5 := hc3 5 _ h5
      have r6 := hc3 6 _ h6
      have r7 := hc3 7 _ h7
      have r8 := hc3 8 _ h8
      have r9 := hc3 9 _ h9
      have r10 := hc3 10 _ h10
      have r11 := hc3 11 _ h11
      have r12 := hc3 12 _ h12
      simp only [Nat.add_zero] at r0
      clear hc1 hx hc2 hc3 hx2 g0 g1 g2 g3 g4 g5 g6 g7 g8 g9 g10 g11 g12 h0 h1 h2 h3 h4 h5 h6 h7 h8 h9 h10 h11 h12 HND HND2 hsm hsm2 fa FR hb1 hb2 hsb BY0
      go_upto_region 7 with fail
      rw [HZ5.out]
      clear r0 r1 r2 r3 r4 r5 r6 r7 r8 r9 r10 r11 r12
      generalize w5.alloc _ = wa at *
      generalize wr.heap.size = gx at *
      have a0 := BX.out.cell 0
      have a1 := BX.out.cell 1
      have a2 := BX.out.cell 2
      have a3 := BX.out.cell 3
      have a4 := BX.out.cell 4
      have a5 := BX.out.cell 5
      have a6 := BX.out.cell 6
      have a7 := BX.out.cell 7
      have a8 := BX.out.cell 8
      have a9 := BX.out.cell 9
      have a10 := BX.out.cell 10
      have a11 := BX.out.cell 11
      have a12 := BX.out.cell 12
      simp at a0 a1 a2 a3 a4 a5 a6 a7 a8 a9 a10 a11 a12
      have b0 := BY.out.cell 0
      have b1 := BY.out.cell 1
      have b2 := BY.out.cell 2
      have b3 := BY.out.cell 3
      have b4 := BY.out.cell 4
      have b5 := BY.out.cell 5
      have b6 := BY.out.cell 6
      have b7 := BY.out.cell 7
      have b8 := BY.out.cell 8
      have b9 := BY.out.cell 9
      have b10 := BY.out.cell 10
      have b11 := BY.out.cell 11
      have b12 := BY.out.cell 12
      simp at b0 b1 b2 b3 b4 b5 b6 b7 b8 b9 b10 b11 b12
      cases sb with
      | false =>
        have hv : vb = false := by rw [HV.out]; exact eqL_bad HX.out HX2.out HSB.out.symm
        have HVV := Lib.hid hv
        clear hv
        go_wp2_with fail
        refine HW.out.mono ?_
        rintro e w2 ⟨rfl, f2⟩
        have F2 := Lib.hid (FRa.out.trans (f2.mono (B' := w.heap.size) (L' := []) FRa.out.size (by simp)))
        clear f2 HW
        go_wp2_with fail
        go_ret
        exact ⟨by rw [HVV.out]; rfl, F2.out⟩
      | true =>
        go_wp2_with fail
        refine HW.out.mono ?_
        rintro e w2 ⟨rfl, f2⟩
        have F2 := Lib.hid (FRa.out.trans (f2.mono (B' := w.heap.size) (L' := []) FRa.out.size (by simp)))
        clear f2 HW
        go_wp2_with fail
        go_roundg (n - (k + 1))
        case measure => omega
        case rel => exact ⟨k + 1, by omega, rfl, by go_num, Lib.hid (fun j x' y' hj h1 h2 => by
          by_cases e : j = k
          · subst e
            rw [HX.out] at h1
            rw [HX2.out] at h2
            injection h1 with h1
            injection h2 with h2
            rw [← h1, ← h2]
            exact HSB.out.symm
          · exact HB.out j x' y' (by omega) h1 h2), F2⟩
    · obtain rfl : k = n := by omega
      have hv : vb = true := by
        rw [HV.out]
        have h1 := H.out.num
        have h2 := H2.out.num
        refine eqL_good (by simp [fstN]; omega) fun j x y hx hy => HB.out j x y ?_ hx hy
        have := (List.getElem?_eq_some_iff.1 hx).1
        simp [fstN] at this
        omega
      have HVV := Lib.hid hv
      clear hv
      go_wp2_with fail
      go_ret
      exact ⟨by rw [HVV.out]; rfl, FR.out⟩
set_option maxRecDepth 100000 in
set_option maxHeartbeats 1000000 in
theorem gsame_any (A A2 : Option Addr) (c c2 B n n2 : Nat) (M K : List Ndm) (w : World) (h : Nds w B A n M) (h2 : Nds w B A2 n2 K) (hB : B ≤ w.heap.size) (hs : Small M) (hs2 : Small K) (hn : n ≤ 20) (hn2 : n2 ≤ 20) :
    Calls Try.prog 24 #[.slice A n c, .slice A2 n2 c2] w fun e w' => e = .returned (.bool (sameL (fstN M) (fstN K))) ∧ Fr w.heap.size [] w w' := by
  have HN := Lib.hid (norm_any A c B n M w h hB hs hn)
  have HN2 := Lib.hid (fun (wx : World) (hx : Fr w.heap.size [] w wx) => norm_any A2 c2 B n2 K wx (h2.frw hx hB (by simp)) (Nat.le_trans hB hx.size) hs2 hn2)
  have HS := Lib.hid hs
  have HS2 := Lib.hid hs2
  obtain ⟨vb, hvb⟩ : ∃ b, b = sameL (fstN M) (fstN K) := ⟨_, rfl⟩
  rw [← hvb]
  have HV := Lib.hid hvb
  clear h h2 hs hs2 hvb
  go_enter Try.func24, Try.ntmps24
  go_wp2_with fail
  refine HN.out.mono ?_
  rintro e w1 ⟨A3, c3, n3, M3, hn3, rfl, ho3, hi3, hf3, f1⟩
  have HM3 := Lib.hid (show Nmd w.heap.size w1 A3 n3 c3 M3 from ⟨hn3, ho3, hi3⟩)
  have HF3 := Lib.hid hf3
  have F1 := Lib.hid f1
  clear hn3 ho3 hi3 hf3 f1 HN
  go_wp2_with fail
  refine (HN2.out w1 F1.out).mono ?_
  rintro e w2 ⟨A4, c4, n4, M4, hn4, rfl, ho4, hi4, hf4, f2⟩
  have HM4 := show Nmd w1.heap.size w2 A4 n4 c4 M4 from ⟨hn4, ho4, hi4⟩
  have F2 := Lib.hid (F1.out.trans (f2.mono (B' := w.heap.size) (L' := []) F1.out.size (by simp)))
  have HE := equalf_any A3 A4 c3 c4 w2.heap.size n3 n4 M3 M4 w2 ((HM3.out.nds f2 (by simp)).more f2.size) (HM4.nds (Fr.refl _ [] _) (by simp)) (Nat.le_refl _) (small_norm HS.out HF3.out) (small_norm HS2.out hf4)
  rw [HF3.out, hf4, show eqL (normL (fstN M)) (normL (fstN K)) = vb from HV.out.symm] at HE
  have HE := Lib.hid HE
  clear hn4 ho4 hi4 hf4 f2 HM4 HM3 HF3
  go_wp2_with fail
  refine HE.out.mono ?_
  rintro e w3 ⟨rfl, f3⟩
  have F3 := Lib.hid (F2.out.trans (f3.mono (B' := w.heap.size) (L' := []) F2.out.size (by simp)))
  clear f3
  go_wp2_with fail
  go_ret
  exact ⟨rfl, F3.out⟩
end Go.Proofs.Ytddngibfhklnfaa
