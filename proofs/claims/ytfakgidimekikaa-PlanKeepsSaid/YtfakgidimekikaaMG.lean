/- Texts merged into one, for the number of files a claim may have: SameB, SameC, SameD, SameE, GrT, PlP, StA, PlQ. -/
import Derived.Test.YtfakgidimekikaaMSamA
import Derived.Test.YtfakgidimekikaaMArrEq
import Derived.Test.YtfakgidimekikaaMF
import Derived.Test.YtfakgidimekikaaMNdK
import Derived.Test.YtfakgidimekikaaMA
import Derived.StillTailTactics
namespace Go.Proofs.Ytfakgidimekikaa
open Go.RowKit Go.Fb
def rt8B (r s : Nat → Int) : Bool := (List.range 8).all fun j => r j == s j
/-- Are two nodes one? -/
def sameNd (x y : Nd) : Bool := decide (x.id = y.id) && (decide (x.kind = y.kind) && (decide (x.par = y.par) && (rt8B x.rt y.rt && (decide (x.fr = y.fr) && decide (x.pg = y.pg)))))
theorem eql8 (r s : Nat → Int) (w : World) : (binOp .eql 33 (A8 r) (A8 s)).run Try.prog w = .ok (.bool (rt8B r s)) w := by
  simp only [binOp, Op.equal, Op.maxDepth, Sem.run_bind, eq8, Result.andThen_ok]
  rfl
set_option maxRecDepth 100000 in
set_option maxHeartbeats 4000000 in
theorem alike_any (x y : Nd) (sf sp tf tp : Value) (B : Nat) (w : World) (h : NdIn w B (x, sf, sp)) (h' : NdIn w B (y, tf, tp)) (hB : B ≤ w.heap.size) (h1 : x.fr.length ≤ 1000000 ∧ x.pg.length ≤ 1000000) (h2 : y.fr.length ≤ 1000000 ∧ y.pg.length ≤ 1000000) :
    Calls Try.prog 20 #[.agg (ndA x sf sp), .agg (ndA y tf tp)] w fun e w' => e = .returned (.bool (sameNd x y)) ∧ Fr w.heap.size [] w w' := by
  obtain ⟨⟨Af, cf, hf1, hf2⟩, ⟨Ap, cp, hp1, hp2⟩⟩ := h
  obtain ⟨⟨Bf, df, kf1, kf2⟩, ⟨Bp, dp, kp1, kp2⟩⟩ := h'
  simp only at hf1 hf2 hp1 hp2 kf1 kf2 kp1 kp2
  subst hf1
  subst hp1
  subst kf1
  subst kp1
  have HFR := fun (wx : World) (hx : Fr w.heap.size [] w wx) => iequal_any Af Bf cf df B x.fr.length y.fr.length x.fr y.fr wx rfl rfl h1.1 h2.1 (hf2.fr hx hB (by simp)) (kf2.fr hx hB (by simp))
  have HPG := fun (wx : World) (hx : Fr w.heap.size [] w wx) => pequal_any Ap Bp cp dp B x.pg.length y.pg.length x.pg y.pg wx rfl rfl h1.2 h2.2 (hp2.fr hx hB (by simp)) (kp2.fr hx hB (by simp))
  obtain ⟨nf, hnf⟩ : ∃ z, z = x.fr.length := ⟨_, rfl⟩
  obtain ⟨np, hnp⟩ : ∃ z, z = x.pg.length := ⟨_, rfl⟩
  obtain ⟨mf, hmf⟩ : ∃ z, z = y.fr.length := ⟨_, rfl⟩
  obtain ⟨mp, hmp⟩ : ∃ z, z = y.pg.length := ⟨_, rfl⟩
  obtain ⟨fb, hfb⟩ : ∃ b, b = decide (x.fr = y.fr) := ⟨_, rfl⟩
  obtain ⟨pb, hpb⟩ : ∃ b, b = decide (x.pg = y.pg) := ⟨_, rfl⟩
  obtain ⟨rb, hrb⟩ : ∃ b, b = rt8B x.rt y.rt := ⟨_, rfl⟩
  obtain ⟨vb, hvb⟩ : ∃ b, b = sameNd x y := ⟨_, rfl⟩
  rw [← hnf, ← hmf, ← hfb] at HFR
  rw [← hnp, ← hmp, ← hpb] at HPG
  rw [← hnf, ← hmf, ← hnp, ← hmp, ← hvb]
  have HV := Lib.hid (show vb = (decide (x.id = y.id) && (decide (x.kind = y.kind) && (decide (x.par = y.par) && (rb && (fb && pb))))) by rw [hvb, hrb, hfb, hpb]; rfl)
  have hq8 := fun w => eql8 x.rt y.rt w
  rw [← hrb] at hq8
  have HFR := Lib.hid HFR
  have HPG := Lib.hid HPG
  have BX := Lib.hid ((Blk.new w 35 (ndA x (.slice Af nf cf) (.slice Ap np cp))).alloc (.cells (ndA y (.slice Bf mf df) (.slice Bp mp dp)) 35))
  have BY0 := Blk.new (w.alloc (.cells (ndA x (.slice Af nf cf) (.slice Ap np cp)) 35)) 35 (ndA y (.slice Bf mf df) (.slice Bp mp dp))
  rw [World.size_alloc] at BY0
  have BY := Lib.hid BY0
  have F1 := Lib.hid (((Fr.refl w.heap.size [] w).alloc (Nat.le_refl _) (.cells (ndA x (.slice Af nf cf) (.slice Ap np cp)) 35)).alloc (by simp) (.cells (ndA y (.slice Bf mf df) (.slice Bp mp dp)) 35))
  clear BY0 hf2 hp2 kf2 kp2 hnf hnp hmf hmp hfb hpb hrb hvb h1 h2
  go_enter Try.func20, Try.ntmps20
  go_upto_region 1 with fail
  generalize (w.alloc _).alloc _ = w1 at *
  have a0 := BX.out.cell 0
  have a1 := BX.out.cell 1
  have a2 := BX.out.cell 2
  have a3 := BX.out.cell 3
  have a4 := BX.out.cell 4
  have a5 := BX.out.cell 5
  have a6 := BX.out.cell 6
  have a7 := BX.out.cell 7
  have a8 := BX.out.cell 8
  have a9 := BX.out.cell 9
  have a10 := BX.out.cell 10
  have a11 := BX.out.cell 11
  have a12 := BX.out.cell 12
  simp at a0 a1 a2 a3 a4 a5 a6 a7 a8 a9 a10 a11 a12
  have b0 := BY.out.cell 0
  have b1 := BY.out.cell 1
  have b2 := BY.out.cell 2
  have b3 := BY.out.cell 3
  have b4 := BY.out.cell 4
  have b5 := BY.out.cell 5
  have b6 := BY.out.cell 6
  have b7 := BY.out.cell 7
  have b8 := BY.out.cell 8
  have b9 := BY.out.cell 9
  have b10 := BY.out.cell 10
  have b11 := BY.out.cell 11
  have b12 := BY.out.cell 12
  simp at b0 b1 b2 b3 b4 b5 b6 b7 b8 b9 b10 b11 b12
  have no : ∀ (p : Prop) [Decidable p], ¬ p → decide p = false := fun p _ h => decide_eq_false h
  by_cases e0 : x.id = y.id
  case neg =>
    have hv : vb = false := by rw [HV.out, decide_eq_false e0]; rfl
    have H := Lib.hid hv
    have he : (x.id == y.id) = false := by simpa using e0
    clear hv HV no e0
    go_wp2_with fail
    go_ret
    exact ⟨by rw [H.out]; rfl, F1.out⟩
  by_cases e1 : x.kind = y.kind
  case neg =>
    have hv : vb = false := by rw [HV.out, decide_eq_false e1]; simp
    have H := Lib.hid hv
    have he : (x.id == y.id) = true := by simpa using e0
    have he1 : (x.kind == y.kind) = false := by simpa using e1
    clear hv HV no e0 e1
    go_wp2_with fail
    go_ret
    exact ⟨by rw [H.out]; rfl, F1.out⟩
  by_cases e2 : x.par = y.par
  case neg =>
    have hv : vb = false := by rw [HV.out, decide_eq_false e2]; simp
    have H := Lib.hid hv
    have he : (x.id == y.id) = true := by simpa using e0
    have he1 : (x.kind == y.kind) = true := by simpa using e1
    have he2 : (x.par == y.par) = false := by simpa using e2
    clear hv HV no e0 e1 e2
    go_wp2_with fail
    go_ret
    exact ⟨by rw [H.out]; rfl, F1.out⟩
  have hv : vb = (rb && (fb && pb)) := by rw [HV.out, decide_eq_true e0, decide_eq_true e1, decide_eq_true e2]; rfl
  have H := Lib.hid hv
  have he : (x.id == y.id) = true := by simpa using e0
  have he1 : (x.kind == y.kind) = true := by simpa using e1
  have he2 : (x.par == y.par) = true := by simpa using e2
  clear hv HV no e0 e1 e2
  cases rb with
  | false =>
    have hv : vb = false := by rw [H.out]; rfl
    have H := Lib.hid hv
    clear hv
    go_wp2_with fail
    go_ret
    exact ⟨by rw [H.out]; rfl, F1.out⟩
  | true =>
    cases fb with
    | false =>
      have hv : vb = false := by rw [H.out]; rfl
      have H := Lib.hid hv
      clear hv
      go_wp2_with fail
      refine (HFR.out _ F1.out).mono ?_
      rintro e w2 ⟨rfl, f2⟩
      have F2 := Lib.hid (F1.out.trans (f2.mono (B' := w.heap.size) (L' := []) F1.out.size (by simp)))
      clear f2
      go_wp2_with fail
      go_ret
      exact ⟨by rw [H.out]; rfl, F2.out⟩
    | true =>
      have hv : vb = pb := by rw [H.out]; rfl
      have H := Lib.hid hv
      clear hv
      go_wp2_with fail
      refine (HFR.out _ F1.out).mono ?_
      rintro e w2 ⟨rfl, f2⟩
      have F2 := Lib.hid (F1.out.trans (f2.mono (B' := w.heap.size) (L' := []) F1.out.size (by simp)))
      have r3 := (BX.out.fr f2 BX.out.lt (by simp)).cell 3
      have s3 := (BY.out.fr f2 BY.out.lt (by simp)).cell 3
      simp at r3 s3
      clear f2
      go_wp2_with fail
      refine (HPG.out _ F2.out).mono ?_
      rintro e w3 ⟨rfl, f3⟩
      have F3 := Lib.hid (F2.out.trans (f3.mono (B' := w.heap.size) (L' := []) F2.out.size (by simp)))
      clear f3
      go_wp2_with fail
      go_ret
      exact ⟨by rw [H.out]; rfl, F3.out⟩
end Go.Proofs.Ytfakgidimekikaa
namespace Go.Proofs.Ytfakgidimekikaa
open Go.RowKit Go.Fb
/-- Are two lists of nodes one, node by node? -/
def eqL (L K : List Nd) : Bool := decide (L.length = K.length) && (L.zip K).all fun p => sameNd p.1 p.2
def sameL (L K : List Nd) : Bool := eqL (normL L) (normL K)
theorem eqL_no {L K : List Nd} (h : L.length ≠ K.length) : eqL L K = false := by unfold eqL; rw [decide_eq_false h]; rfl
theorem eqL_bad {L K : List Nd} {k : Nat} {x y : Nd} (hx : L[k]? = some x) (hy : K[k]? = some y) (h : sameNd x y = false) : eqL L K = false := by
  unfold eqL
  rw [Bool.and_eq_false_iff]
  right
  rw [List.all_eq_false]
  refine ⟨(x, y), ?_, by simp [h]⟩
  refine List.mem_of_getElem? (i := k) ?_
  rw [List.getElem?_zip_eq_some]
  exact ⟨hx, hy⟩
theorem eqL_good {L K : List Nd} (hl : L.length = K.length) (h : ∀ (k : Nat) (x y : Nd), L[k]? = some x → K[k]? = some y → sameNd x y = true) : eqL L K = true := by
  unfold eqL
  rw [decide_eq_true hl, Bool.true_and, List.all_eq_true]
  rintro ⟨x, y⟩ hm
  obtain ⟨k, hk⟩ := List.getElem?_of_mem hm
  rw [List.getElem?_zip_eq_some] at hk
  exact h k x y hk.1 hk.2
set_option maxRecDepth 100000 in
set_option maxHeartbeats 4000000 in
theorem equalf_any (A A2 : Option Addr) (c c2 B n n2 : Nat) (M K : List Ndm) (w : World) (h : Nds w B A n M) (h2 : Nds w B A2 n2 K) (hB : B ≤ w.heap.size) (hs : Small M) (hs2 : Small K) :
    Calls Try.prog 19 #[.slice A n c, .slice A2 n2 c2, .func (.func 20) #[] #[]] w fun e w' => e = .returned (.bool (eqL (fstN M) (fstN K))) ∧ Fr w.heap.size [] w w' := by
  have H := Lib.hid h
  have H2 := Lib.hid h2
  have HS := Lib.hid hs
  have HS2 := Lib.hid hs2
  have hm : n ≤ 1000000 := by rw [h.num]; exact hs.1
  have hm2 : n2 ≤ 1000000 := by rw [h2.num]; exact hs2.1
  obtain ⟨vb, hvb⟩ : ∃ b, b = eqL (fstN M) (fstN K) := ⟨_, rfl⟩
  rw [← hvb]
  have HV := Lib.hid hvb
  have hent := enters_of Try.func20 (by kernel_rfl) rfl
  clear h h2 hs hs2 hvb
  by_cases hne : n = n2
  case neg =>
    have hv : vb = false := by
      rw [HV.out]
      refine eqL_no ?_
      have h1 := H.out.num
      have h2 := H2.out.num
      simp [fstN]
      omega
    have HVV := Lib.hid hv
    have he : ((n : Int) != (n2 : Int)) = true := by simp; omega
    clear hv
    go_enter Try.func19, Try.ntmps19
    go_wp2_with fail
    go_ret
    exact ⟨by rw [HVV.out]; rfl, Fr.refl _ _ _⟩
  subst hne
  go_enter Try.func19, Try.ntmps19
  go_wp2_with fail
  go_loopg [17] n (fun g s17 wr => ∃ k : Nat, k ≤ n ∧ g = n - k ∧ s17 = .int .i64 k ∧ RowKit.Hid (∀ (j : Nat) (x y : Nd), j < k → (fstN M)[j]? = some x → (fstN K)[j]? = some y → sameNd x y = true) ∧ RowKit.Hid (Fr w.heap.size [] w wr))
  case atStart => exact ⟨0, Nat.zero_le _, rfl, rfl, Lib.hid (fun j x y h => absurd h (Nat.not_lt_zero _)), Lib.hid (Fr.refl _ _ _)⟩
  case round =>
    obtain ⟨k, hk, rfl, rfl, HB, FR⟩ := hrel
    by_cases hkn : k < n
    · have hki : (k : Int) < (n : Int) := by omega
      have hk0 : (0 : Int) ≤ (k : Int) := by omega
      obtain ⟨m, hx⟩ : ∃ m, M[k]? = some m := ⟨_, List.getElem?_eq_getElem (by rw [← H.out.num]; exact hkn)⟩
      obtain ⟨m2, hx2⟩ : ∃ m, K[k]? = some m := ⟨_, List.getElem?_eq_getElem (by rw [← H2.out.num]; exact hkn)⟩
      have HND := H.out.frw FR.out hB (by simp)
      have HND2 := H2.out.frw FR.out hB (by simp)
      obtain ⟨b1, o1, rfl, hb1, hc1⟩ := HND.get hx
      obtain ⟨b2, o2, rfl, hb2, hc2⟩ := HND2.get hx2
      have hin := HND.inn m (List.mem_of_getElem? hx)
      have hin2 := HND2.inn m2 (List.mem_of_getElem? hx2)
      have hsm := HS.out.2 m (List.mem_of_getElem? hx)
      have hsm2 := HS2.out.2 m2 (List.mem_of_getElem? hx2)
      have HX := Lib.hid (show (fstN M)[k]? = some m.1 by simp [fstN, hx])
      have HX2 := Lib.hid (show (fstN K)[k]? = some m2.1 by simp [fstN, hx2])
      obtain ⟨x, sf, sp⟩ := m
      obtain ⟨y, tf, tp⟩ := m2
      simp only at hsm hsm2 HX HX2
      have hBr : B ≤ wr.heap.size := Nat.le_trans hB FR.out.size
      have fa := ((Fr.refl wr.heap.size [] wr).alloc (Nat.le_refl _) (.cells (ndA x sf sp) 35)).alloc (by simp) (.cells (ndA y tf tp) 35)
      have HW := alike_any x y sf sp tf tp B ((wr.alloc (.cells (ndA x sf sp) 35)).alloc (.cells (ndA y tf tp) 35)) (hin.frw fa hBr (by simp)) (hin2.frw fa hBr (by simp)) (Nat.le_trans hBr fa.size) hsm hsm2
      obtain ⟨sb, hsb⟩ : ∃ b, b = sameNd x y := ⟨_, rfl⟩
      rw [← hsb] at HW
      have HSB := Lib.hid hsb
      have HW := Lib.hid HW
      have BX := Lib.hid ((Blk.new wr 35 (ndA x sf sp)).alloc (.cells (ndA y tf tp) 35))
      have BY0 := Blk.new (wr.alloc (.cells (ndA x sf sp) 35)) 35 (ndA y tf tp)
      rw [World.size_alloc] at BY0
      have BY := Lib.hid BY0
      have FRa := Lib.hid (FR.out.trans (fa.mono (B' := w.heap.size) (L' := []) FR.out.size (by simp)))
      obtain ⟨⟨Af, cf, hf1, _⟩, ⟨Ap, cp, hp1, _⟩⟩ := hin
      obtain ⟨⟨Bf, df, kf1, _⟩, ⟨Bp, dp, kp1, _⟩⟩ := hin2
      simp only at hf1 hp1 kf1 kp1
      subst hf1
      subst hp1
      subst kf1
      subst kp1
      obtain ⟨g0, g1, g2, g3, g4, g5, g6, g7, g8, g9, g10, g11, g12⟩ := ndL_get (x, .slice Af x.fr.length cf, .slice Ap x.pg.length cp)
      have p0 := hc1 0 _ g0
      have p1 := hc1 1 _ g1
      have p2 := hc1 2 _ g2
      have p3 := hc1 3 _ g3
      have p4 := hc1 4 _ g4
      have p5 := hc1 5 _ g5
      have p6 := hc1 6 _ g6
      have p7 := hc1 7 _ g7
      have p8 := hc1 8 _ g8
      have p9 := hc1 9 _ g9
      have p10 := hc1 10 _ g10
      have p11 := hc1 11 _ g11
      have p12 := hc1 12 _ g12
      simp only [Nat.add_zero] at p0
      have fa1 := (Fr.refl wr.heap.size [] wr).alloc (Nat.le_refl _) (.cells (ndA x (.slice Af x.fr.length cf) (.slice Ap x.pg.length cp)) 35)
      have hc3 : ∀ j u, (ndL (y, .slice Bf y.fr.length df, .slice Bp y.pg.length dp))[j]? = some u → (wr.alloc (.cells (ndA x (.slice Af x.fr.length cf) (.slice Ap x.pg.length cp)) 35)).cell? ⟨b2, o2 + k * 13 + j, none⟩ = some u := fun j u hu => (fa1.cell (p := ⟨b2, o2 + k * 13 + j, none⟩) (Nat.lt_of_lt_of_le hb2 hBr) (by simp)).trans (hc2 j u hu)
      clear fa1
      go_upto_region 6 with fail
      clear p0 p1 p2 p3 p4 p5 p6 p7 p8 p9 p10 p11 p12
      generalize hw5 : wr.alloc (.cells (ndA x (.slice Af x.fr.length cf) (.slice Ap x.pg.length cp)) 35) = w5 at *
      have hz5 : w5.heap.size = wr.heap.size + 1 := by rw [← hw5]; simp
      have HZ5 := Lib.hid hz5
      clear hw5 hz5
      obtain ⟨h0, h1, h2, h3, h4, h5, h6, h7, h8, h9, h10, h11, h12⟩ := ndL_get (y, .slice Bf y.fr.length df, .slice Bp y.pg.length dp)
      have r0 := hc3 0 _ h0
      have r1 := hc3 1 _ h1
      have r2 := hc3 2 _ h2
      have r3 := hc3 3 _ h3
      have r4 := hc3 4 _ h4
      have r5 := hc3 5 _ h5
      have r6 := hc3 6 _ h6
      have r7 := hc3 7 _ h7
      have r8 := hc3 8 _ h8
      have r9 := hc3 9 _ h9
      have r10 := hc3 10 _ h10
      have r11 := hc3 11 _ h11
      have r12 := hc3 12 _ h12
      simp only [Nat.add_zero] at r0
      clear hc1 hx hc2 hc3 hx2 g0 g1 g2 g3 g4 g5 g6 g7 g8 g9 g10 g11 g12 h0 h1 h2 h3 h4 h5 h6 h7 h8 h9 h10 h11 h12 HND HND2 hsm hsm2 fa FR hb1 hb2 hsb BY0
      go_upto_region 7 with fail
      rw [HZ5.out]
      clear r0 r1 r2 r3 r4 r5 r6 r7 r8 r9 r10 r11 r12
      generalize w5.alloc _ = wa at *
      generalize wr.heap.size = gx at *
      have a0 := BX.out.cell 0
      have a1 := BX.out.cell 1
      have a2 := BX.out.cell 2
      have a3 := BX.out.cell 3
      have a4 := BX.out.cell 4
      have a5 := BX.out.cell 5
      have a6 := BX.out.cell 6
      have a7 := BX.out.cell 7
      have a8 := BX.out.cell 8
      have a9 := BX.out.cell 9
      have a10 := BX.out.cell 10
      have a11 := BX.out.cell 11
      have a12 := BX.out.cell 12
      simp at a0 a1 a2 a3 a4 a5 a6 a7 a8 a9 a10 a11 a12
      have b0 := BY.out.cell 0
      have b1 := BY.out.cell 1
      have b2 := BY.out.cell 2
      have b3 := BY.out.cell 3
      have b4 := BY.out.cell 4
      have b5 := BY.out.cell 5
      have b6 := BY.out.cell 6
      have b7 := BY.out.cell 7
      have b8 := BY.out.cell 8
      have b9 := BY.out.cell 9
      have b10 := BY.out.cell 10
      have b11 := BY.out.cell 11
      have b12 := BY.out.cell 12
      simp at b0 b1 b2 b3 b4 b5 b6 b7 b8 b9 b10 b11 b12
      cases sb with
      | false =>
        have hv : vb = false := by rw [HV.out]; exact eqL_bad HX.out HX2.out HSB.out.symm
        have HVV := Lib.hid hv
        clear hv
        go_wp2_with fail
        refine HW.out.mono ?_
        rintro e w2 ⟨rfl, f2⟩
        have F2 := Lib.hid (FRa.out.trans (f2.mono (B' := w.heap.size) (L' := []) FRa.out.size (by simp)))
        clear f2 HW
        go_wp2_with fail
        go_ret
        exact ⟨by rw [HVV.out]; rfl, F2.out⟩
      | true =>
        go_wp2_with fail
        refine HW.out.mono ?_
        rintro e w2 ⟨rfl, f2⟩
        have F2 := Lib.hid (FRa.out.trans (f2.mono (B' := w.heap.size) (L' := []) FRa.out.size (by simp)))
        clear f2 HW
        go_wp2_with fail
        go_roundg (n - (k + 1))
        case measure => omega
        case rel => exact ⟨k + 1, by omega, rfl, by go_num, Lib.hid (fun j x' y' hj h1 h2 => by
          by_cases e : j = k
          · subst e
            rw [HX.out] at h1
            rw [HX2.out] at h2
            injection h1 with h1
            injection h2 with h2
            rw [← h1, ← h2]
            exact HSB.out.symm
          · exact HB.out j x' y' (by omega) h1 h2), F2⟩
    · obtain rfl : k = n := by omega
      have hv : vb = true := by
        rw [HV.out]
        have h1 := H.out.num
        have h2 := H2.out.num
        refine eqL_good (by simp [fstN]; omega) fun j x y hx hy => HB.out j x y ?_ hx hy
        have := (List.getElem?_eq_some_iff.1 hx).1
        simp [fstN] at this
        omega
      have HVV := Lib.hid hv
      clear hv
      go_wp2_with fail
      go_ret
      exact ⟨by rw [HVV.out]; rfl, FR.out⟩
set_option maxRecDepth 100000 in
set_option maxHeartbeats 1000000 in
theorem gsame_any (A A2 : Option Addr) (c c2 B n n2 : Nat) (M K : List Ndm) (w : World) (h : Nds w B A n M) (h2 : Nds w B A2 n2 K) (hB : B ≤ w.heap.size) (hs : Small M) (hs2 : Small K) (hn : n ≤ 20) (hn2 : n2 ≤ 20) :
    Calls Try.prog 8 #[.slice A n c, .slice A2 n2 c2] w fun e w' => e = .returned (.bool (sameL (fstN M) (fstN K))) ∧ Fr w.heap.size [] w w' := by
  have HN := Lib.hid (norm_any A c B n M w h hB hs hn)
  have HN2 := Lib.hid (fun (wx : World) (hx : Fr w.heap.size [] w wx) => norm_any A2 c2 B n2 K wx (h2.frw hx hB (by simp)) (Nat.le_trans hB hx.size) hs2 hn2)
  have HS := Lib.hid hs
  have HS2 := Lib.hid hs2
  obtain ⟨vb, hvb⟩ : ∃ b, b = sameL (fstN M) (fstN K) := ⟨_, rfl⟩
  rw [← hvb]
  have HV := Lib.hid hvb
  clear h h2 hs hs2 hvb
  go_enter Try.func8, Try.ntmps8
  go_wp2_with fail
  refine HN.out.mono ?_
  rintro e w1 ⟨A3, c3, n3, M3, hn3, rfl, ho3, hi3, hf3, f1⟩
  have HM3 := Lib.hid (show Nmd w.heap.size w1 A3 n3 c3 M3 from ⟨hn3, ho3, hi3⟩)
  have HF3 := Lib.hid hf3
  have F1 := Lib.hid f1
  clear hn3 ho3 hi3 hf3 f1 HN
  go_wp2_with fail
  refine (HN2.out w1 F1.out).mono ?_
  rintro e w2 ⟨A4, c4, n4, M4, hn4, rfl, ho4, hi4, hf4, f2⟩
  have HM4 := show Nmd w1.heap.size w2 A4 n4 c4 M4 from ⟨hn4, ho4, hi4⟩
  have F2 := Lib.hid (F1.out.trans (f2.mono (B' := w.heap.size) (L' := []) F1.out.size (by simp)))
  have HE := equalf_any A3 A4 c3 c4 w2.heap.size n3 n4 M3 M4 w2 ((HM3.out.nds f2 (by simp)).more f2.size) (HM4.nds (Fr.refl _ [] _) (by simp)) (Nat.le_refl _) (small_norm HS.out HF3.out) (small_norm HS2.out hf4)
  rw [HF3.out, hf4, show eqL (normL (fstN M)) (normL (fstN K)) = vb from HV.out.symm] at HE
  have HE := Lib.hid HE
  clear hn4 ho4 hi4 hf4 f2 HM4 HM3 HF3
  go_wp2_with fail
  refine HE.out.mono ?_
  rintro e w3 ⟨rfl, f3⟩
  have F3 := Lib.hid (F2.out.trans (f3.mono (B' := w.heap.size) (L' := []) F2.out.size (by simp)))
  clear f3
  go_wp2_with fail
  go_ret
  exact ⟨rfl, F3.out⟩
end Go.Proofs.Ytfakgidimekikaa
namespace Go.Proofs.Ytfakgidimekikaa
open Go.RowKit Go.Fb
set_option maxRecDepth 100000 in
set_option maxHeartbeats 4000000 in
theorem rnode_any (x y : Nd) (sf sp tf tp : Value) (B : Nat) (w : World) (h : NdIn w B (x, sf, sp)) (h' : NdIn w B (y, tf, tp)) (hB : B ≤ w.heap.size) (h1 : x.fr.length ≤ 1000000 ∧ x.pg.length ≤ 1000000) (h2 : y.fr.length ≤ 1000000 ∧ y.pg.length ≤ 1000000) :
    Calls Try.prog 12 #[.agg (ndA x sf sp), .agg (ndA y tf tp)] w fun e w' => e = .returned (.bool (sameNd x y)) ∧ Fr w.heap.size [] w w' := by
  obtain ⟨⟨Af, cf, hf1, hf2⟩, ⟨Ap, cp, hp1, hp2⟩⟩ := h
  obtain ⟨⟨Bf, df, kf1, kf2⟩, ⟨Bp, dp, kp1, kp2⟩⟩ := h'
  simp only at hf1 hf2 hp1 hp2 kf1 kf2 kp1 kp2
  subst hf1
  subst hp1
  subst kf1
  subst kp1
  have HFR := fun (wx : World) (hx : Fr w.heap.size [] w wx) => And.intro (hf2.fr hx hB (by simp)) (kf2.fr hx hB (by simp))
  have HPG := fun (wx : World) (hx : Fr w.heap.size [] w wx) => rpsame_any Ap Bp cp dp B x.pg.length y.pg.length x.pg y.pg wx rfl rfl h1.2 h2.2 (hp2.fr hx hB (by simp)) (kp2.fr hx hB (by simp))
  obtain ⟨nf, hnf⟩ : ∃ z, z = x.fr.length := ⟨_, rfl⟩
  obtain ⟨np, hnp⟩ : ∃ z, z = x.pg.length := ⟨_, rfl⟩
  obtain ⟨mf, hmf⟩ : ∃ z, z = y.fr.length := ⟨_, rfl⟩
  obtain ⟨mp, hmp⟩ : ∃ z, z = y.pg.length := ⟨_, rfl⟩
  obtain ⟨fb, hfb⟩ : ∃ b, b = decide (x.fr = y.fr) := ⟨_, rfl⟩
  obtain ⟨pb, hpb⟩ : ∃ b, b = decide (x.pg = y.pg) := ⟨_, rfl⟩
  obtain ⟨rb, hrb⟩ : ∃ b, b = rt8B x.rt y.rt := ⟨_, rfl⟩
  obtain ⟨vb, hvb⟩ : ∃ b, b = sameNd x y := ⟨_, rfl⟩
  rw [← hnf, ← hmf] at HFR
  rw [← hnp, ← hmp, ← hpb] at HPG
  rw [← hnf, ← hmf, ← hnp, ← hmp, ← hvb]
  have HV := Lib.hid (show vb = (decide (x.id = y.id) && (decide (x.kind = y.kind) && (decide (x.par = y.par) && (rb && (fb && pb))))) by rw [hvb, hrb, hfb, hpb]; rfl)
  have HFB := Lib.hid hfb
  have HNF := Lib.hid hnf
  have HMF := Lib.hid hmf
  have hnf1 : nf ≤ 1000000 := by rw [hnf]; exact h1.1
  have hmf1 : mf ≤ 1000000 := by rw [hmf]; exact h2.1
  have hq8 := fun w => eql8 x.rt y.rt w
  rw [← hrb] at hq8
  have HFR := Lib.hid HFR
  have HPG := Lib.hid HPG
  have BX := Lib.hid ((Blk.new w 35 (ndA x (.slice Af nf cf) (.slice Ap np cp))).alloc (.cells (ndA y (.slice Bf mf df) (.slice Bp mp dp)) 35))
  have BY0 := Blk.new (w.alloc (.cells (ndA x (.slice Af nf cf) (.slice Ap np cp)) 35)) 35 (ndA y (.slice Bf mf df) (.slice Bp mp dp))
  rw [World.size_alloc] at BY0
  have BY := Lib.hid BY0
  have F1 := Lib.hid (((Fr.refl w.heap.size [] w).alloc (Nat.le_refl _) (.cells (ndA x (.slice Af nf cf) (.slice Ap np cp)) 35)).alloc (by simp) (.cells (ndA y (.slice Bf mf df) (.slice Bp mp dp)) 35))
  clear BY0 hf2 hp2 kf2 kp2 hnf hnp hmf hmp hfb hpb hrb hvb h1 h2
  go_enter Try.func12, Try.ntmps12
  go_upto_region 1 with fail
  generalize (w.alloc _).alloc _ = w1 at *
  by_cases hne : nf = mf
  case neg =>
    have a2 := BX.out.cell 2
    have b2 := BY.out.cell 2
    simp at a2 b2
    have hv : vb = false := by
      have : fb = false := by rw [HFB.out]; exact decide_eq_false fun h => hne (by rw [HNF.out, HMF.out, h])
      rw [HV.out, this]; simp
    have H := Lib.hid hv
    have he : ((nf : Int) != (mf : Int)) = true := by simp; omega
    clear hv
    go_wp2_with fail
    go_ret
    exact ⟨by rw [H.out]; rfl, F1.out⟩
  subst hne
  have a2 := BX.out.cell 2
  have b2 := BY.out.cell 2
  simp at a2 b2
  go_wp2_with fail
  go_loopg [5] nf (fun g s5 wr => ∃ k : Nat, k ≤ nf ∧ g = nf - k ∧ s5 = .int .i64 k ∧ RowKit.Hid (∀ j, j < k → x.fr[j]? = y.fr[j]?) ∧ RowKit.Hid (Fr w.heap.size [] w wr) ∧ RowKit.Hid (Blk wr w.heap.size 35 (ndA x (.slice Af nf cf) (.slice Ap np cp))) ∧ RowKit.Hid (Blk wr (w.heap.size + 1) 35 (ndA y (.slice Bf nf df) (.slice Bp mp dp))))
  case atStart => exact ⟨0, Nat.zero_le _, rfl, rfl, Lib.hid (fun j h => absurd h (Nat.not_lt_zero _)), F1, BX, BY⟩
  case round =>
    obtain ⟨k, hk, rfl, rfl, HB, F1, BX, BY⟩ := hrel
    by_cases hkn : k < nf
    · have hki : (k : Int) < (nf : Int) := by omega
      have hk0 : (0 : Int) ≤ (k : Int) := by omega
      obtain ⟨r1, r2⟩ := HFR.out wr F1.out
      obtain ⟨c1, o1, u1, rfl, hc1, hu1, hcc1⟩ := r1.one hkn
      obtain ⟨c2, o2, u2, rfl, hc2, hu2, hcc2⟩ := r2.one hkn
      obtain ⟨u, hx⟩ : ∃ u, x.fr[k]? = some u := ⟨_, List.getElem?_eq_getElem (by rw [← HNF.out]; exact hkn)⟩
      obtain ⟨v, hy⟩ : ∃ v, y.fr[k]? = some v := ⟨_, List.getElem?_eq_getElem (by rw [← HMF.out]; exact hkn)⟩
      rw [List.getElem?_map, hx] at hu1
      rw [List.getElem?_map, hy] at hu2
      simp at hu1 hu2
      subst hu1
      subst hu2
      have HX := Lib.hid hx
      have HY := Lib.hid hy
      have a2 := BX.out.cell 2
      have b2 := BY.out.cell 2
      simp at a2 b2
      clear hx hy r1 r2 hc1 hc2
      by_cases e : u = v
      · have he : (u != v) = false := by simpa using e
        have HB2 := Lib.hid (show ∀ j, j < k + 1 → x.fr[j]? = y.fr[j]? from fun j hj => by
          by_cases e2 : j = k
          · subst e2; rw [HX.out, HY.out, e]
          · exact HB.out j (by omega))
        clear e
        go_wp2_with fail
        go_quiet (fail)
        go_wp2_with fail
        go_roundg (nf - (k + 1))
        case measure => omega
        case rel => exact ⟨k + 1, by omega, rfl, by go_num, HB2, Lib.hid (F1.out.drewN _), Lib.hid (BX.out.drewN _), Lib.hid (BY.out.drewN _)⟩
      · have he : (u != v) = true := by simpa using e
        have hv : vb = false := by
          have : fb = false := by
            rw [HFB.out]
            refine decide_eq_false fun h => e ?_
            have := HX.out
            rw [h, HY.out] at this
            injection this with this
            exact this.symm
          rw [HV.out, this]; simp
        have H := Lib.hid hv
        clear hv e
        go_wp2_with fail
        go_quiet (fail)
        go_wp2_with fail
        go_ret
        exact ⟨by rw [H.out]; rfl, F1.out.drewN _⟩
    · obtain rfl : k = nf := by omega
      have hfb : fb = true := by
        rw [HFB.out]
        refine decide_eq_true (List.ext_getElem? fun j => ?_)
        by_cases hj : j < k
        · exact HB.out j hj
        · rw [List.getElem?_eq_none (by rw [← HNF.out]; omega), List.getElem?_eq_none (by rw [← HMF.out]; omega)]
      subst hfb
      clear a2 b2
      have a0 := BX.out.cell 0
      have a1 := BX.out.cell 1
      have a2 := BX.out.cell 2
      have a3 := BX.out.cell 3
      have a4 := BX.out.cell 4
      have a5 := BX.out.cell 5
      have a6 := BX.out.cell 6
      have a7 := BX.out.cell 7
      have a8 := BX.out.cell 8
      have a9 := BX.out.cell 9
      have a10 := BX.out.cell 10
      have a11 := BX.out.cell 11
      have a12 := BX.out.cell 12
      simp at a0 a1 a2 a3 a4 a5 a6 a7 a8 a9 a10 a11 a12
      have b0 := BY.out.cell 0
      have b1 := BY.out.cell 1
      have b2 := BY.out.cell 2
      have b3 := BY.out.cell 3
      have b4 := BY.out.cell 4
      have b5 := BY.out.cell 5
      have b6 := BY.out.cell 6
      have b7 := BY.out.cell 7
      have b8 := BY.out.cell 8
      have b9 := BY.out.cell 9
      have b10 := BY.out.cell 10
      have b11 := BY.out.cell 11
      have b12 := BY.out.cell 12
      simp at b0 b1 b2 b3 b4 b5 b6 b7 b8 b9 b10 b11 b12
      by_cases e0 : x.id = y.id
      case neg =>
        have hv : vb = false := by rw [HV.out, decide_eq_false e0]; rfl
        have H := Lib.hid hv
        have he : (x.id == y.id) = false := by simpa using e0
        clear hv HV e0
        go_wp2_with fail
        go_ret
        exact ⟨by rw [H.out]; rfl, F1.out⟩
      by_cases e1 : x.kind = y.kind
      case neg =>
        have hv : vb = false := by rw [HV.out, decide_eq_false e1]; simp
        have H := Lib.hid hv
        have he : (x.id == y.id) = true := by simpa using e0
        have he1 : (x.kind == y.kind) = false := by simpa using e1
        clear hv HV e0 e1
        go_wp2_with fail
        go_ret
        exact ⟨by rw [H.out]; rfl, F1.out⟩
      by_cases e2 : x.par = y.par
      case neg =>
        have hv : vb = false := by rw [HV.out, decide_eq_false e2]; simp
        have H := Lib.hid hv
        have he : (x.id == y.id) = true := by simpa using e0
        have he1 : (x.kind == y.kind) = true := by simpa using e1
        have he2 : (x.par == y.par) = false := by simpa using e2
        clear hv HV e0 e1 e2
        go_wp2_with fail
        go_ret
        exact ⟨by rw [H.out]; rfl, F1.out⟩
      have hv : vb = (rb && pb) := by rw [HV.out, decide_eq_true e0, decide_eq_true e1, decide_eq_true e2]; simp
      have H := Lib.hid hv
      have he : (x.id == y.id) = true := by simpa using e0
      have he1 : (x.kind == y.kind) = true := by simpa using e1
      have he2 : (x.par == y.par) = true := by simpa using e2
      clear hv HV e0 e1 e2
      cases rb with
      | false =>
        have hv : vb = false := by rw [H.out]; rfl
        have H := Lib.hid hv
        clear hv
        go_wp2_with fail
        go_ret
        exact ⟨by rw [H.out]; rfl, F1.out⟩
      | true =>
        have hv : vb = pb := by rw [H.out]; rfl
        have H := Lib.hid hv
        clear hv
        go_wp2_with fail
        refine (HPG.out _ F1.out).mono ?_
        rintro e w3 ⟨rfl, f3⟩
        have F3 := Lib.hid (F1.out.trans (f3.mono (B' := w.heap.size) (L' := []) F1.out.size (by simp)))
        clear f3
        go_wp2_with fail
        go_ret
        exact ⟨by rw [H.out]; rfl, F3.out⟩
end Go.Proofs.Ytfakgidimekikaa
namespace Go.Proofs.Ytfakgidimekikaa
open Go.RowKit Go.Fb
def rsame1 (K : List Nd) (x : Nd) : Bool := match findN K x.id with
  | none => false
  | some y => sameNd x y
def rsameL (L K : List Nd) : Bool := decide (L.length = K.length) && L.all (rsame1 K)
end Go.Proofs.Ytfakgidimekikaa
namespace Go.Proofs.Ytfakgidimekikaa
theorem sameNd_refl (x : Nd) : sameNd x x = true := by simp [sameNd, rt8B]
theorem eqL_refl (L : List Nd) : eqL L L = true := eqL_good rfl fun k x y hx hy => by
  rw [hx] at hy
  injection hy with hy
  rw [hy]
  exact sameNd_refl y
theorem sameL_norm (L : List Nd) : sameL L (normL L) = true := by unfold sameL; rw [normL_norm]; exact eqL_refl _
theorem sameL_self (L : List Nd) : sameL L L = true := eqL_refl _
theorem eqL_iff {L K : List Nd} : eqL L K = true ↔ L.length = K.length ∧ ∀ (k : Nat) (x y : Nd), L[k]? = some x → K[k]? = some y → sameNd x y = true := by
  constructor
  · intro h
    have hl : L.length = K.length := Classical.byContradiction fun hn => by rw [eqL_no hn] at h; cases h
    refine ⟨hl, fun k x y hx hy => ?_⟩
    cases hs : sameNd x y with
    | true => rfl
    | false => rw [eqL_bad hx hy hs] at h; cases h
  · rintro ⟨h1, h2⟩
    exact eqL_good h1 h2
theorem sameNd_id {x y : Nd} (h : sameNd x y = true) : x.id = y.id := by
  unfold sameNd at h
  simp only [Bool.and_eq_true, decide_eq_true_eq] at h
  exact h.1
theorem norm_rises {L : List Nd} (hu : (idsN L).Nodup) : (idsN (normL L)).Pairwise (· < ·) := by
  have h1 : (idsN (normL L)).Pairwise (· ≤ ·) := by unfold idsN; rw [List.pairwise_map]; exact normL_sorted L
  have h2 : (idsN (normL L)).Nodup := ((normL_perm L).map _).nodup_iff.2 hu
  exact (List.Pairwise.and h1 (List.nodup_iff_pairwise_ne.1 h2)).imp fun h => by omega
theorem norm_ids {L : List Nd} {x : Int} : x ∈ idsN (normL L) ↔ x ∈ idsN L := ((normL_perm L).map _).mem_iff
theorem rsameL_iff {L K : List Nd} : rsameL L K = true ↔ L.length = K.length ∧ ∀ x ∈ L, rsame1 K x = true := by
  unfold rsameL
  rw [Bool.and_eq_true, decide_eq_true_eq, List.all_eq_true]
theorem same_right {L K : List Nd} (hu : (idsN L).Nodup) (hk : (idsN K).Nodup) : sameL L K = rsameL L K := by
  rw [Bool.eq_iff_iff, rsameL_iff]
  unfold sameL
  rw [eqL_iff, normL_len, normL_len]
  constructor
  · rintro ⟨h1, h2⟩
    refine ⟨h1, fun x hx => ?_⟩
    obtain ⟨k, hkx⟩ := List.getElem?_of_mem (normL_mem.2 hx)
    have hlt := (List.getElem?_eq_some_iff.1 hkx).1
    rw [normL_len] at hlt
    obtain ⟨y, hy⟩ : ∃ y, (normL K)[k]? = some y := ⟨_, List.getElem?_eq_getElem (by rw [normL_len]; omega)⟩
    have hs := h2 k x y hkx hy
    unfold rsame1
    rw [sameNd_id hs, findN_one hk (normL_mem.1 (List.mem_of_getElem? hy))]
    exact hs
  · rintro ⟨h1, h2⟩
    refine ⟨h1, ?_⟩
    have hsub : ∀ x ∈ idsN L, x ∈ idsN K := by
      intro i hi
      obtain ⟨x, hx, rfl⟩ := List.mem_map.1 hi
      have := h2 x hx
      unfold rsame1 at this
      cases hf : findN K x.id with
      | none => rw [hf] at this; cases this
      | some y => exact findN_ids.1 ⟨y, hf⟩
    have hback := full_sub hu hsub (by simp [idsN]; omega)
    have hids : idsN (normL L) = idsN (normL K) := rises_eq (norm_rises hu) (norm_rises hk) fun x => by
      rw [norm_ids, norm_ids]
      exact ⟨hsub x, hback x⟩
    intro k x y hx hy
    have hid : x.id = y.id := by
      have a : (idsN (normL L))[k]? = some x.id := by simp [idsN, hx]
      have b : (idsN (normL K))[k]? = some y.id := by simp [idsN, hy]
      rw [hids, b] at a
      injection a with a
      exact a.symm
    have := h2 x (normL_mem.1 (List.mem_of_getElem? hx))
    unfold rsame1 at this
    rw [hid, findN_one hk (normL_mem.1 (List.mem_of_getElem? hy))] at this
    exact this
theorem norm_up {L : List Nd} {i : Nat} {x y : Nd} (hx : (normL L)[i]? = some x) (hy : (normL L)[i + 1]? = some y) : x.id ≤ y.id := by
  obtain ⟨h1, rfl⟩ := List.getElem?_eq_some_iff.1 hx
  obtain ⟨h2, rfl⟩ := List.getElem?_eq_some_iff.1 hy
  exact List.pairwise_iff_getElem.1 (normL_sorted L) i (i + 1) h1 h2 (by omega)
/-- A node with another number of tasks. -/
def parN (x : Nd) (p : Int) : Nd := ⟨x.id, x.kind, p, x.fr, x.pg, x.rt⟩
theorem unlike_par {L t : List Nd} {x : Nd} {p : Int} (h : normL L = x :: t) (hp : p ≠ x.par) : sameL L (parN x p :: t) = false := by
  unfold sameL
  have hs : SortedN (parN x p :: t) := by
    have := normL_sorted L
    rw [h] at this
    have h2 := List.pairwise_cons.1 this
    exact List.pairwise_cons.2 ⟨h2.1, h2.2⟩
  rw [normL_self hs, h]
  refine eqL_bad (k := 0) rfl rfl ?_
  unfold sameNd parN
  simp only [decide_true, Bool.true_and]
  rw [decide_eq_false (fun h => hp h.symm)]
  rfl
end Go.Proofs.Ytfakgidimekikaa
namespace Go.Proofs.Ytfakgidimekikaa
structure Stp where
  kind : Int
  nd : Nd
  rs : Bool
def pgN (l : List (Int × Int)) (x : Nd) : Nd := ⟨x.id, x.kind, x.par, x.fr, l, x.rt⟩
def rtN (p : Int) (r : Nat → Int) (x : Nd) : Nd := ⟨x.id, x.kind, p, x.fr, x.pg, r⟩
def frN (l : List Int) (x : Nd) : Nd := ⟨x.id, x.kind, x.par, l, x.pg, x.rt⟩
def updN (N : List Nd) (id : Int) (f : Nd → Nd) : List Nd := N.map fun n => if n.id = id then f n else n
def delN (N : List Nd) (id : Int) : List Nd := N.filter fun n => !decide (n.id = id)
/-- A step without what doesn't matter. -/
def cleanS (s : Stp) : Stp :=
  if s.kind = 1 then ⟨1, ⟨s.nd.id, 0, 0, [], s.nd.pg, fun _ => 0⟩, s.rs⟩
  else if s.kind = 2 then ⟨2, s.nd, false⟩
  else if s.kind = 3 then ⟨3, ⟨s.nd.id, 0, 0, [], [], fun _ => 0⟩, false⟩
  else if s.kind = 4 then ⟨4, ⟨s.nd.id, 0, s.nd.par, [], [], s.nd.rt⟩, false⟩
  else if s.kind = 5 then ⟨5, ⟨s.nd.id, 0, 0, s.nd.fr, [], fun _ => 0⟩, false⟩
  else ⟨0, ⟨0, 0, 0, [], [], fun _ => 0⟩, false⟩
/-- The change of a step: the error's number, the nodes. -/
def chgN (N : List Nd) (s : Stp) : Int × List Nd :=
  match findN N s.nd.id with
  | none => if s.kind = 2 then (if s.nd.kind = 0 then (11, []) else (0, N ++ [s.nd])) else (12, [])
  | some n =>
    if s.kind = 2 then (13, [])
    else if s.kind = 1 then (if n.kind = 1 then (if (chkL s.nd.pg).isSome = true then (0, updN N s.nd.id (pgN s.nd.pg)) else (9, [])) else (11, []))
    else if s.kind = 3 then (if n.kind = 0 ∨ (childN N s.nd.id).length ≠ 0 then (11, []) else (0, delN N s.nd.id))
    else if s.kind = 4 then (if n.kind = 0 then (11, []) else (0, updN N s.nd.id (rtN s.nd.par s.nd.rt)))
    else (if n.kind = 2 then (0, updN N s.nd.id (frN s.nd.fr)) else (11, []))
def endN (r : Int × List Nd) : Int × List Nd := if r.1 ≠ 0 then (r.1, []) else if checkN r.2 ≠ 0 then (checkN r.2, []) else (0, normL r.2)
def endR (r : Int × List Nd) : Int × List Nd := if r.1 ≠ 0 then (r.1, []) else if checkN r.2 ≠ 0 then (checkN r.2, []) else (0, r.2)
def stepN (L : List Nd) (s : Stp) : Int × List Nd := if checkN L ≠ 0 then (10, []) else if s.kind < 1 ∨ 5 < s.kind then (11, []) else endN (chgN (normL L) s)
def stepR (L : List Nd) (s : Stp) : Int × List Nd := if checkN L ≠ 0 then (10, []) else if s.kind < 1 ∨ 5 < s.kind then (11, []) else endR (chgN L s)
def goN (i : Nat) (L : List Nd) : List Stp → Int × Nat × List Nd
  | [] => (0, 0, L)
  | s :: p => if (stepN L s).1 ≠ 0 then ((stepN L s).1, i + 1, []) else goN (i + 1) (stepN L s).2 p
def goR (i : Nat) (L : List Nd) : List Stp → Int × Nat × List Nd
  | [] => (0, 0, L)
  | s :: p => if (stepR L s).1 ≠ 0 then ((stepR L s).1, i + 1, []) else goR (i + 1) (stepR L s).2 p
def applyN (L : List Nd) (p : List Stp) : Int × Nat × List Nd := if checkN L ≠ 0 then (10, 0, []) else if p.length < 1 ∨ 6 < p.length then (11, 0, []) else goN 0 L p
def applyR (L : List Nd) (p : List Stp) : Int × Nat × List Nd := if checkN L ≠ 0 then (10, 0, []) else if p.length < 1 ∨ 6 < p.length then (11, 0, []) else goR 0 L p
theorem ids_perm {L K : List Nd} (h : L.Perm K) : (idsN L).Perm (idsN K) := h.map _
theorem filt_find {L : List Nd} (hu : (idsN L).Nodup) (k : Int) : filtN k L = (findN L k).toList := by
  cases hf : findN L k with
  | none =>
    unfold filtN
    rw [List.filter_eq_nil_iff.2]
    · rfl
    · intro y hy e
      have := List.find?_eq_none.1 hf y hy
      exact this e
  | some n =>
    have h1 := findN_id hf
    rw [← h1, one_filt hu (findN_mem hf)]
    rfl
theorem find_perm {L K : List Nd} (h : L.Perm K) (hu : (idsN L).Nodup) (k : Int) : findN L k = findN K k := by
  have hk : (idsN K).Nodup := (ids_perm h).nodup_iff.1 hu
  cases hf : findN L k with
  | some n =>
    have := findN_one hk (h.mem_iff.1 (findN_mem hf))
    rw [findN_id hf] at this
    exact this.symm
  | none =>
    cases hg : findN K k with
    | none => rfl
    | some n =>
      have := findN_one hu (h.mem_iff.2 (findN_mem hg))
      rw [findN_id hg, hf] at this
      cases this
theorem norm_perm {L K : List Nd} (h : L.Perm K) (hu : (idsN L).Nodup) : normL L = normL K := by
  have hk : (idsN K).Nodup := (ids_perm h).nodup_iff.1 hu
  refine normL_eq (normL_sorted L) fun k => ?_
  rw [normL_filt, filt_find hu, filt_find hk, find_perm h hu]
theorem right_perm {L K : List Nd} (h : L.Perm K) (g : RightG L) : RightG K := by
  refine ⟨by rw [← h.length_eq]; exact g.len, fun n hn => ?_, (ids_perm h).nodup_iff.1 g.uni, (ids_perm h).mem_iff.1 g.zero, ?_⟩
  · obtain ⟨a1, a2, a3, a4, a5⟩ := nodeB_iff.1 (g.each n (h.mem_iff.2 hn))
    refine nodeB_iff.2 ⟨a1, a2, a3, a4, fun f hf => ?_⟩
    rw [← find_perm h g.uni]
    exact a5 f hf
  · obtain ⟨r, hr⟩ := g.rank
    exact ⟨r, fun n hn => hr n (h.mem_iff.2 hn)⟩
theorem check_perm {L K : List Nd} (h : L.Perm K) : checkN L = checkN K := by
  have hl := h.length_eq
  rcases checkN_three L with h1 | h1 | h1
  · rw [h1, checkN_zero.2 (right_perm h (checkN_zero.1 h1))]
  · rw [h1, checkN_long.2 (by have := checkN_long.1 h1; omega)]
  · rcases checkN_three K with h2 | h2 | h2
    · rw [checkN_zero.2 (right_perm h.symm (checkN_zero.1 h2))] at h1; cases h1
    · rw [checkN_long.2 (by have := checkN_long.1 h2; omega)] at h1; cases h1
    · rw [h1, h2]
theorem child_perm {L K : List Nd} (h : L.Perm K) (id : Int) : childN L id = childN K id :=
  rises_eq (childN_rises L id) (childN_rises K id) fun c => by
    rw [childN_mem, childN_mem]
    constructor
    · rintro ⟨n, hn, r⟩; exact ⟨n, h.mem_iff.1 hn, r⟩
    · rintro ⟨n, hn, r⟩; exact ⟨n, h.mem_iff.2 hn, r⟩
theorem chg_perm {L K : List Nd} (h : L.Perm K) (hu : (idsN L).Nodup) (s : Stp) : (chgN L s).1 = (chgN K s).1 ∧ (chgN L s).2.Perm (chgN K s).2 := by
  unfold chgN
  rw [find_perm h hu, child_perm h]
  have hm : ∀ f, (updN L s.nd.id f).Perm (updN K s.nd.id f) := fun f => h.map _
  have hd : (delN L s.nd.id).Perm (delN K s.nd.id) := h.filter _
  have ha : (L ++ [s.nd]).Perm (K ++ [s.nd]) := h.append_right _
  cases findN K s.nd.id with
  | none =>
    simp only
    by_cases h1 : s.kind = 2
    · rw [if_pos h1, if_pos h1]
      by_cases h2 : s.nd.kind = 0
      · rw [if_pos h2, if_pos h2]; exact ⟨rfl, .refl _⟩
      · rw [if_neg h2, if_neg h2]; exact ⟨rfl, ha⟩
    · rw [if_neg h1, if_neg h1]; exact ⟨rfl, .refl _⟩
  | some n =>
    simp only
    split
    · exact ⟨rfl, .refl _⟩
    split
    · split
      · split
        · exact ⟨rfl, hm _⟩
        · exact ⟨rfl, .refl _⟩
      · exact ⟨rfl, .refl _⟩
    split
    · split
      · exact ⟨rfl, .refl _⟩
      · exact ⟨rfl, hd⟩
    split
    · split
      · exact ⟨rfl, .refl _⟩
      · exact ⟨rfl, hm _⟩
    split
    · exact ⟨rfl, hm _⟩
    · exact ⟨rfl, .refl _⟩
theorem checkN_nilP : checkN [] = 10 := by
  refine checkN_ten (by simp) fun h => ?_
  have := h.zero
  simp [idsN] at this
theorem end_perm {a b : Int × List Nd} (h1 : a.1 = b.1) (h2 : a.2.Perm b.2) : (endN a).1 = (endR b).1 ∧ ((endN a).1 = 0 → RightG (endR b).2 ∧ (endN a).2 = normL (endR b).2) := by
  unfold endN endR
  rw [h1, check_perm h2]
  by_cases c : b.1 ≠ 0
  · rw [if_pos c, if_pos c]
    exact ⟨rfl, fun e => absurd e c⟩
  rw [if_neg c, if_neg c]
  by_cases d : checkN b.2 ≠ 0
  · rw [if_pos d, if_pos d]
    exact ⟨rfl, fun e => absurd e d⟩
  rw [if_neg d, if_neg d]
  have hr := checkN_zero.1 (Decidable.not_not.1 d)
  exact ⟨rfl, fun _ => ⟨hr, norm_perm h2 ((ids_perm h2).nodup_iff.2 hr.uni)⟩⟩
/-- The program's step and the document's: one error; one graph. -/
theorem step_agree {L K : List Nd} (h : L.Perm K) (s : Stp) : (stepN L s).1 = (stepR K s).1 ∧ ((stepN L s).1 = 0 → RightG (stepR K s).2 ∧ (stepN L s).2 = normL (stepR K s).2) := by
  unfold stepN stepR
  rw [check_perm h]
  by_cases c : checkN K ≠ 0
  · rw [if_pos c, if_pos c]
    exact ⟨rfl, fun e => by cases e⟩
  rw [if_neg c, if_neg c]
  split
  · exact ⟨rfl, fun e => by cases e⟩
  have hr := checkN_zero.1 (Decidable.not_not.1 c)
  have hp : (normL L).Perm K := (normL_perm L).trans h
  obtain ⟨h1, h2⟩ := chg_perm hp ((ids_perm hp).nodup_iff.2 hr.uni) s
  exact end_perm h1 h2
theorem go_agree : ∀ (p : List Stp) (i : Nat) {L K : List Nd}, L.Perm K → RightG K → (goN i L p).1 = (goR i K p).1 ∧ (goN i L p).2.1 = (goR i K p).2.1 ∧ ((goN i L p).1 = 0 → RightG (goR i K p).2.2 ∧ (goN i L p).2.2.Perm (goR i K p).2.2)
  | [], i, L, K, h, hr => ⟨rfl, rfl, fun _ => ⟨hr, h⟩⟩
  | s :: p, i, L, K, h, hr => by
    obtain ⟨h1, h2⟩ := step_agree h s
    unfold goN goR
    rw [← h1]
    by_cases c : (stepN L s).1 ≠ 0
    · rw [if_pos c, if_pos c]
      exact ⟨rfl, rfl, fun e => absurd e c⟩
    rw [if_neg c, if_neg c]
    obtain ⟨h3, h4⟩ := h2 (Decidable.not_not.1 c)
    exact go_agree p (i + 1) (by rw [h4]; exact normL_perm _) h3
theorem apply_agree (L : List Nd) (p : List Stp) : (applyN L p).1 = (applyR L p).1 ∧ (applyN L p).2.1 = (applyR L p).2.1 ∧ ((applyN L p).1 = 0 → RightG (applyR L p).2.2 ∧ (applyN L p).2.2.Perm (applyR L p).2.2) := by
  unfold applyN applyR
  by_cases c : checkN L ≠ 0
  · rw [if_pos c, if_pos c]
    exact ⟨rfl, rfl, fun e => by cases e⟩
  rw [if_neg c, if_neg c]
  split
  · exact ⟨rfl, rfl, fun e => by cases e⟩
  exact go_agree p 0 (.refl _) (checkN_zero.1 (Decidable.not_not.1 c))
theorem rsameL_perm {L K : List Nd} (h : L.Perm K) (hu : (idsN K).Nodup) : rsameL L K = true := by
  rw [rsameL_iff]
  refine ⟨h.length_eq, fun x hx => ?_⟩
  unfold rsame1
  rw [findN_one hu (h.mem_iff.1 hx)]
  exact sameNd_refl x
theorem len_ne {L : List Nd} (h : RightG L) : L.length ≠ 0 := by
  intro e
  have := h.zero
  rw [List.eq_nil_of_length_eq_zero e] at this
  simp [idsN] at this
end Go.Proofs.Ytfakgidimekikaa
namespace Go.Proofs.Ytfakgidimekikaa
open Go.RowKit Go.Fb
abbrev stA (kd : Int) (x : Nd) (rs : Bool) (sf sp : Value) : Array Value := #[.int .i64 kd, .int .i64 x.id, .int .i64 x.kind, sf, sp, .int .i64 x.par, .int .i64 (x.rt 0), .int .i64 (x.rt 1), .int .i64 (x.rt 2), .int .i64 (x.rt 3), .int .i64 (x.rt 4), .int .i64 (x.rt 5), .int .i64 (x.rt 6), .int .i64 (x.rt 7), .bool rs]
abbrev stV (s : Stp) (sf sp : Value) : Array Value := stA s.kind s.nd s.rs sf sp
/-- What a clean step is. -/
def CleanOut (s : Stp) (w : World) (e : Ending) (w' : World) : Prop :=
  ∃ tf tp, e = .returned (.agg (stV (cleanS s) tf tp)) ∧ NdIn w' w'.heap.size ((cleanS s).nd, tf, tp) ∧ Fresh w.heap.size tf ∧ Fresh w.heap.size tp ∧ Fr w.heap.size [] w w'
theorem fresh_nil (b : Nat) : Fresh b (.slice none 0 0) := fun A n c h hn => by injection h with _ h2; omega
theorem ndin_fresh {w w' : World} {B B' b : Nat} {L : List Nat} {m : Ndm} (h : NdIn w B m) (f1 : Fresh b m.2.1) (f2 : Fresh b m.2.2) (hf : Fr B' L w w') (hB : B ≤ B') (hL : ∀ k ∈ L, k < b) : NdIn w' B m := by
  obtain ⟨⟨A, c, h1, h2⟩, ⟨A', c', h3, h4⟩⟩ := h
  exact ⟨⟨A, c, h1, h2.frL hf hB (fresh_notin f1 hL h1)⟩, ⟨A', c', h3, h4.frL hf hB (fresh_notin f2 hL h3)⟩⟩
theorem nd_bare (w : World) (B : Nat) (x : Nd) (h1 : x.fr = []) (h2 : x.pg = []) : NdIn w B (x, .slice none 0 0, .slice none 0 0) :=
  ⟨⟨none, 0, by rw [h1]; rfl, by rw [h1]; exact Reads.none_⟩, ⟨none, 0, by rw [h2]; rfl, by rw [h2]; exact Reads.none_⟩⟩
theorem kd_ne {a b : Int} (h : a ≠ b) : (a == b) = false := by simpa using h
end Go.Proofs.Ytfakgidimekikaa
namespace Go.Proofs.Ytfakgidimekikaa
open Go.RowKit Go.Fb
theorem step_ok {L : List Nd} {s : Stp} (hr : RightG L) (hk : 1 ≤ s.kind ∧ s.kind ≤ 5) : stepN L s = endN (chgN (normL L) s) := by
  unfold stepN
  rw [if_neg (by rw [checkN_zero.2 hr]; simp), if_neg (by omega)]
theorem end_ok {r : Int × List Nd} (h : (endN r).1 = 0) : r.1 = 0 ∧ RightG r.2 ∧ endN r = (0, normL r.2) := by
  unfold endN at h ⊢
  by_cases h1 : r.1 ≠ 0
  · rw [if_pos h1] at h; exact absurd h h1
  rw [if_neg h1] at h ⊢
  by_cases h2 : checkN r.2 ≠ 0
  · rw [if_pos h2] at h; exact absurd h h2
  rw [if_neg h2]
  exact ⟨Decidable.not_not.1 h1, checkN_zero.1 (Decidable.not_not.1 h2), rfl⟩
theorem end_mk {l : List Nd} (h : RightG l) : endN (0, l) = (0, normL l) := by
  unfold endN
  rw [if_neg (by simp), if_neg (by simp only; rw [checkN_zero.2 h]; simp)]
theorem norm_right {L : List Nd} (h : RightG L) : RightG (normL L) := right_perm (normL_perm L).symm h
/-- What is added, and removed, is as it was. -/
theorem add_rem {L : List Nd} {x : Nd} {r r' : Bool} (hr : RightG L) (h : (stepN L ⟨2, x, r⟩).1 = 0) : stepN (stepN L ⟨2, x, r⟩).2 ⟨3, x, r'⟩ = (0, normL L) := by
  have hN := norm_right hr
  rw [step_ok hr (by simp)] at h ⊢
  obtain ⟨h1, h2, h3⟩ := end_ok h
  rw [h3]
  have hc : findN (normL L) x.id = none ∧ x.kind ≠ 0 ∧ chgN (normL L) ⟨2, x, r⟩ = (0, normL L ++ [x]) := by
    unfold chgN at h1 ⊢
    cases hf : findN (normL L) x.id with
    | none =>
      rw [hf] at h1
      by_cases hk : x.kind = 0
      · simp [hk] at h1
      · exact ⟨rfl, hk, by simp [hk]⟩
    | some n => rw [hf] at h1; simp at h1
  obtain ⟨hf, hk, hc⟩ := hc
  rw [hc] at h2 ⊢
  simp only at h2 ⊢
  generalize hNd : normL L = N at *
  have hA := norm_right h2
  rw [step_ok hA (by simp), normL_norm]
  have hfA : findN (normL (N ++ [x])) x.id = some x := by
    rw [findN_norm]
    exact findN_one h2.uni (by simp)
  have hno : (childN (normL (N ++ [x])) x.id).length = 0 := by
    cases hcs : childN (normL (N ++ [x])) x.id with
    | nil => rfl
    | cons c t =>
      exfalso
      obtain ⟨m, hm, _, hfr⟩ := childN_mem.1 (show c ∈ childN (normL (N ++ [x])) x.id by rw [hcs]; simp)
      rw [normL_mem, List.mem_append] at hm
      rcases hm with hm | hm
      · obtain ⟨y, hy, _⟩ := froms_there (hN.each m hm) _ hfr
        rw [hf] at hy; cases hy
      · rw [List.mem_singleton.1 hm] at hfr
        obtain ⟨q, hq⟩ := h2.rank
        have := hq x (by simp) _ hfr
        omega
  have hch : chgN (normL (N ++ [x])) ⟨3, x, r'⟩ = (0, delN (normL (N ++ [x])) x.id) := by
    unfold chgN
    simp only
    rw [hfA]
    simp [hk, hno]
  have hd : delN (N ++ [x]) x.id = N := by
    unfold delN
    rw [List.filter_append, List.filter_eq_self.2 (fun y hy => by
      have := List.find?_eq_none.1 hf y hy
      simpa using this)]
    simp
  have hp : (delN (normL (N ++ [x])) x.id).Perm N := by
    have := (normL_perm (N ++ [x])).filter (fun n => !decide (n.id = x.id))
    unfold delN at hd ⊢
    rw [hd] at this
    exact this
  have hrd : RightG (delN (normL (N ++ [x])) x.id) := right_perm hp.symm hN
  rw [hch, end_mk hrd, norm_perm hp hrd.uni, ← hNd, normL_norm]
theorem find_upd {N : List Nd} {id : Int} {f : Nd → Nd} (hf : ∀ n, (f n).id = n.id) : findN (updN N id f) id = (findN N id).map f := by
  unfold findN updN
  induction N with
  | nil => rfl
  | cons n N ih =>
    rw [List.map_cons, List.find?_cons, List.find?_cons]
    by_cases h : n.id = id
    · simp [h, hf]
    · simp [h, ih]
theorem upd_ids {N : List Nd} {id : Int} {f : Nd → Nd} (hf : ∀ n, (f n).id = n.id) : idsN (updN N id f) = idsN N := by
  unfold idsN updN
  rw [List.map_map]
  apply List.map_congr_left
  intro n _
  simp only [Function.comp]
  split
  · exact hf n
  · rfl
theorem upd_perm {L K : List Nd} (h : L.Perm K) (id : Int) (f : Nd → Nd) : (updN L id f).Perm (updN K id f) := h.map _
/-- A route that is set, and set back, is as it was. -/
theorem route_back {L : List Nd} {x : Nd} {r r' : Bool} (hr : RightG L) (h : (stepN L ⟨4, x, r⟩).1 = 0) :
    ∃ old, findN L x.id = some old ∧ findN (stepN L ⟨4, x, r⟩).2 x.id = some (rtN x.par x.rt old) ∧ stepN (stepN L ⟨4, x, r⟩).2 ⟨4, old, r'⟩ = (0, normL L) := by
  have hN := norm_right hr
  rw [step_ok hr (by simp)] at h ⊢
  obtain ⟨h1, h2, h3⟩ := end_ok h
  rw [h3]
  have hc : ∃ old, findN (normL L) x.id = some old ∧ old.kind ≠ 0 ∧ chgN (normL L) ⟨4, x, r⟩ = (0, updN (normL L) x.id (rtN x.par x.rt)) := by
    unfold chgN at h1 ⊢
    cases hf : findN (normL L) x.id with
    | none => rw [hf] at h1; simp at h1
    | some n =>
      rw [hf] at h1
      by_cases hk : n.kind = 0
      · simp [hk] at h1
      · exact ⟨n, rfl, hk, by simp [hk]⟩
  obtain ⟨old, hf, hk, hc⟩ := hc
  have hid := findN_id hf
  rw [hc] at h2 ⊢
  simp only at h2 ⊢
  refine ⟨old, by rw [← findN_norm]; exact hf, ?_, ?_⟩
  · rw [findN_norm, find_upd (f := rtN x.par x.rt) (fun n => rfl), hf]; rfl
  generalize hNd : normL L = N at *
  have hA := norm_right h2
  rw [step_ok hA (by simp), normL_norm]
  have hfA : findN (normL (updN N x.id (rtN x.par x.rt))) old.id = some (rtN x.par x.rt old) := by
    rw [findN_norm, hid, find_upd (f := rtN x.par x.rt) (fun n => rfl), hf]; rfl
  have hch : chgN (normL (updN N x.id (rtN x.par x.rt))) ⟨4, old, r'⟩ = (0, updN (normL (updN N x.id (rtN x.par x.rt))) old.id (rtN old.par old.rt)) := by
    unfold chgN
    simp only
    rw [hfA]
    simp [rtN, hk]
  have hb : updN (updN N x.id (rtN x.par x.rt)) old.id (rtN old.par old.rt) = N := by
    unfold updN
    rw [List.map_map]
    conv => rhs; rw [← List.map_id N]
    apply List.map_congr_left
    intro n hn
    simp only [Function.comp, id]
    by_cases hx : n.id = x.id
    · have : n = old := by
        have h5 := findN_one hN.uni hn
        rw [hx, hf] at h5
        injection h5 with h5
        exact h5.symm
      subst this
      simp [rtN, hx]
      rw [← hx]
    · simp [hx, hid]
  have hp : (updN (normL (updN N x.id (rtN x.par x.rt))) old.id (rtN old.par old.rt)).Perm N := by
    have := upd_perm (normL_perm (updN N x.id (rtN x.par x.rt))) old.id (rtN old.par old.rt)
    rw [hb] at this
    exact this
  have hrd := right_perm hp.symm hN
  rw [hch, end_mk hrd, norm_perm hp hrd.uni, ← hNd, normL_norm]
theorem same_norm {L : List Nd} : sameL (normL L) L = true := by
  unfold sameL
  rw [normL_norm]
  exact eqL_refl _
end Go.Proofs.Ytfakgidimekikaa
