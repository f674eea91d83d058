/- Two nodes compared: graph.alike. -/
import Derived.Test.YtddngibfhklnfaaSameA
import Derived.Test.YtddngibfhklnfaaArrEq
namespace Go.Proofs.Ytddngibfhklnfaa
open Go.RowKit Go.Fb
def rt8B (r s : Nat → Int) : Bool := (List.range 8).all fun j => r j == s j
/-- Are two nodes one? -/
def sameNd (x y : Nd) : Bool := decide (x.id = y.id) && (decide (x.kind = y.kind) && (decide (x.par = y.par) && (rt8B x.rt y.rt && (decide (x.fr = y.fr) && decide (x.pg = y.pg)))))
theorem eql8 (r s : Nat → Int) (w : World) : (binOp .eql 36 (A8 r) (A8 s)).run Try.prog w = .ok (.bool (rt8B r s)) w := by
  simp only [binOp, Op.equal, Op.maxDepth, Sem.run_bind, eq8, Result.andThen_ok]
  rfl
set_option maxRecDepth 100000 in
set_option maxHeartbeats 4000000 in
theorem alike_any (x y : Nd) (sf sp tf tp : Value) (B : Nat) (w : World) (h : NdIn w B (x, sf, sp)) (h' : NdIn w B (y, tf, tp)) (hB : B ≤ w.heap.size) (h1 : x.fr.length ≤ 1000000 ∧ x.pg.length ≤ 1000000) (h2 : y.fr.length ≤ 1000000 ∧ y.pg.length ≤ 1000000) :
    Calls Try.prog 58 #[.agg (ndA x sf sp), .agg (ndA y tf tp)] w fun e w' => e = .returned (.bool (sameNd x y)) ∧ Fr w.heap.size [] w w' := by
  obtain ⟨⟨Af, cf, hf1, hf2⟩, ⟨Ap, cp, hp1, hp2⟩⟩ := h
  obtain ⟨⟨Bf, df, kf1, kf2⟩, ⟨Bp, dp, kp1, kp2⟩⟩ := h'
  simp only at hf1 hf2 hp1 hp2 kf1 kf2 kp1 kp2
  subst hf1
  subst hp1
  subst kf1
  subst kp1
  have HFR := fun (wx : World) (hx : Fr w.heap.size [] w wx) => iequal_any Af Bf cf df B x.fr.length y.fr.length x.fr y.fr wx rfl rfl h1.1 h2.1 (hf2.fr hx hB (by simp)) (kf2.fr hx hB (by simp))
  have HPG := fun (wx : World) (hx : Fr w.heap.size [] w wx) => pequal_any Ap Bp cp dp B x.pg.length y.pg.length x.pg y.pg wx rfl rfl h1.2 h2.2 (hp2.fr hx hB (by simp)) (kp2.fr hx hB (by simp))
  obtain ⟨nf, hnf⟩ : ∃ z, z = x.fr.length := ⟨_, rfl⟩
  obtain ⟨np, hnp⟩ : ∃ z, z = x.pg.length := ⟨_, rfl⟩
  obtain ⟨mf, hmf⟩ : ∃ z, z = y.fr.length := ⟨_, rfl⟩
  obtain ⟨mp, hmp⟩ : ∃ z, z = y.pg.length := ⟨_, rfl⟩
  obtain ⟨fb, hfb⟩ : ∃ b, b = decide (x.fr = y.fr) := ⟨_, rfl⟩
  obtain ⟨pb, hpb⟩ : ∃ b, b = decide (x.pg = y.pg) := ⟨_, rfl⟩
  obtain ⟨rb, hrb⟩ : ∃ b, b = rt8B x.rt y.rt := ⟨_, rfl⟩
  obtain ⟨vb, hvb⟩ : ∃ b, b = sameNd x y := ⟨_, rfl⟩
  rw [← hnf, ← hmf, ← hfb] at HFR
  rw [← hnp, ← hmp, ← hpb] at HPG
  rw [← hnf, ← hmf, ← hnp, ← hmp, ← hvb]
  have HV := Lib.hid (show vb = (decide (x.id = y.id) && (decide (x.kind = y.kind) && (decide (x.par = y.par) && (rb && (fb && pb))))) by rw [hvb, hrb, hfb, hpb]; rfl)
  have hq8 := fun w => eql8 x.rt y.rt w
  rw [← hrb] at hq8
  have HFR := Lib.hid HFR
  have HPG := Lib.hid HPG
  have BX := Lib.hid ((Blk.new w 38 (ndA x (.slice Af nf cf) (.slice Ap np cp))).alloc (.cells (ndA y (.slice Bf mf df) (.slice Bp mp dp)) 38))
  have BY0 := Blk.new (w.alloc (.cells (ndA x (.slice Af nf cf) (.slice Ap np cp)) 38)) 38 (ndA y (.slice Bf mf df) (.slice Bp mp dp))
  rw [World.size_alloc] at BY0
  have BY := Lib.hid BY0
  have F1 := Lib.hid (((Fr.refl w.heap.size [] w).alloc (Nat.le_refl _) (.cells (ndA x (.slice Af nf cf) (.slice Ap np cp)) 38)).alloc (by simp) (.cells (ndA y (.slice Bf mf df) (.slice Bp mp dp)) 38))
  clear BY0 hf2 hp2 kf2 kp2 hnf hnp hmf hmp hfb hpb hrb hvb h1 h2
  go_enter Try.func58, Try.ntmps58
  go_upto_region 1 with fail
  generalize (w.alloc _).alloc _ = w1 at *
  have a0 := BX.out.cell 0
  have a1 := BX.out.cell 1
  have a2 := BX.out.cell 2
  have a3 := BX.out.cell 3
  have a4 := BX.out.cell 4
  have a5 := BX.out.cell 5
  have a6 := BX.out.cell 6
  have a7 := BX.out.cell 7
  have a8 := BX.out.cell 8
  have a9 := BX.out.cell 9
  have a10 := BX.out.cell 10
  have a11 := BX.out.cell 11
  have a12 := BX.out.cell 12
  simp at a0 a1 a2 a3 a4 a5 a6 a7 a8 a9 a10 a11 a12
  have b0 := BY.out.cell 0
  have b1 := BY.out.cell 1
  have b2 := BY.out.cell 2
  have b3 := BY.out.cell 3
  have b4 := BY.out.cell 4
  have b5 := BY.out.cell 5
  have b6 := BY.out.cell 6
  have b7 := BY.out.cell 7
  have b8 := BY.out.cell 8
  have b9 := BY.out.cell 9
  have b10 := BY.out.cell 10
  have b11 := BY.out.cell 11
  have b12 := BY.out.cell 12
  simp at b0 b1 b2 b3 b4 b5 b6 b7 b8 b9 b10 b11 b12
  have no : ∀ (p : Prop) [Decidable p], ¬ p → decide p = false := fun p _ h => decide_eq_false h
  by_cases e0 : x.id = y.id
  case neg =>
    have hv : vb = false := by rw [HV.out, decide_eq_false e0]; rfl
    have H := Lib.hid hv
    have he : (x.id == y.id) = false := by simpa using e0
    clear hv HV no e0
    go_wp2_with fail
    go_ret
    exact ⟨by rw [H.out]; rfl, F1.out⟩
  by_cases e1 : x.kind = y.kind
  case neg =>
    have hv : vb = false := by rw [HV.out, decide_eq_false e1]; simp
    have H := Lib.hid hv
    have he : (x.id == y.id) = true := by simpa using e0
    have he1 : (x.kind == y.kind) = false := by simpa using e1
    clear hv HV no e0 e1
    go_wp2_with fail
    go_ret
    exact ⟨by rw [H.out]; rfl, F1.out⟩
  by_cases e2 : x.par = y.par
  case neg =>
    have hv : vb = false := by rw [HV.out, decide_eq_false e2]; simp
    have H := Lib.hid hv
    have he : (x.id == y.id) = true := by simpa using e0
    have he1 : (x.kind == y.kind) = true := by simpa using e1
    have he2 : (x.par == y.par) = false := by simpa using e2
    clear hv HV no e0 e1 e2
    go_wp2_with fail
    go_ret
    exact ⟨by rw [H.out]; rfl, F1.out⟩
  have hv : vb = (rb && (fb && pb)) := by rw [HV.out, decide_eq_true e0, decide_eq_true e1, decide_eq_true e2]; rfl
  have H := Lib.hid hv
  have he : (x.id == y.id) = true := by simpa using e0
  have he1 : (x.kind == y.kind) = true := by simpa using e1
  have he2 : (x.par == y.par) = true := by simpa using e2
  clear hv HV no e0 e1 e2
  cases rb with
  | false =>
    have hv : vb = false := by rw [H.out]; rfl
    have H := Lib.hid hv
    clear hv
    go_wp2_with fail
    go_ret
    exact ⟨by rw [H.out]; rfl, F1.out⟩
  | true =>
    cases fb with
    | false =>
      have hv : vb = false := by rw [H.out]; rfl
      have H := Lib.hid hv
      clear hv
      go_wp2_with fail
      refine (HFR.out _ F1.out).mono ?_
      rintro e w2 ⟨rfl, f2⟩
      have F2 := Lib.hid (F1.out.trans (f2.mono (B' := w.heap.size) (L' := []) F1.out.size (by simp)))
      clear f2
      go_wp2_with fail
      go_ret
      exact ⟨by rw [H.out]; rfl, F2.out⟩
    | true =>
      have hv : vb = pb := by rw [H.out]; rfl
      have H := Lib.hid hv
      clear hv
      go_wp2_with fail
      refine (HFR.out _ F1.out).mono ?_
      rintro e w2 ⟨rfl, f2⟩
      have F2 := Lib.hid (F1.out.trans (f2.mono (B' := w.heap.size) (L' := []) F1.out.size (by simp)))
      have r3 := (BX.out.fr f2 BX.out.lt (by simp)).cell 3
      have s3 := (BY.out.fr f2 BY.out.lt (by simp)).cell 3
      simp at r3 s3
      clear f2
      go_wp2_with fail
      refine (HPG.out _ F2.out).mono ?_
      rintro e w3 ⟨rfl, f3⟩
      have F3 := Lib.hid (F2.out.trans (f3.mono (B' := w.heap.size) (L' := []) F2.out.size (by simp)))
      clear f3
      go_wp2_with fail
      go_ret
      exact ⟨by rw [H.out]; rfl, F3.out⟩
end Go.Proofs.Ytddngibfhklnfaa
