/- The contract of graph.kind. -/
import Derived.Test.YtddngibfhklnfaaNdB
import Derived.Test.YtddngibfhklnfaaChkUse
namespace Go.Proofs.Ytddngibfhklnfaa
open Go.RowKit Go.Fb
theorem safe_any {A : Option Addr} {c B : Nat} {l : List (Int × Int)} {w : World} (hr : Reads w B 2 A l.length (cellsI l)) (hB : B ≤ w.heap.size) (hn : l.length ≤ maxLen) :
    Calls Try.prog 95 #[.slice A l.length c] w fun e w' => e = .returned (.bool (chkL l).isSome) ∧ Fr w.heap.size [] w w' := by
  cases h : chkL l with
  | none => exact safe_no hr hB hn h
  | some s => exact safe_yes hr hB hn h
/-- May a node be, by itself? -/
def kindB (x : Nd) : Bool :=
  if x.kind = 0 then decide (x.id = 0) && (decide (x.fr.length = 0) && decide (x.pg.length = 0))
  else if x.kind = 1 then !decide (x.id = 0) && (decide (x.fr.length = 1) && (chkL x.pg).isSome)
  else if x.kind = 2 then !decide (x.id = 0) && (decide (1 ≤ x.fr.length) && (decide (x.fr.length ≤ 3) && (unlikeB x.fr && decide (x.pg.length = 0))))
  else false
set_option maxRecDepth 100000 in
set_option maxHeartbeats 4000000 in
theorem kind_any (x : Nd) (sf sp : Value) (B : Nat) (w : World) (h : NdIn w B (x, sf, sp)) (hB : B ≤ w.heap.size) (h1 : x.fr.length ≤ 1000000) (h2 : x.pg.length ≤ 1000000) :
    Calls Try.prog 79 #[.agg (ndA x sf sp)] w fun e w' => e = .returned (.bool (kindB x)) ∧ Fr w.heap.size [] w w' := by
  obtain ⟨⟨Af, cf, hf1, hf2⟩, ⟨Ap, cp, hp1, hp2⟩⟩ := h
  simp only at hf1 hf2 hp1 hp2
  subst hf1
  subst hp1
  have HU := fun (wx : World) (hx : Fr w.heap.size [] w wx) => unlike_any Af x.fr.length cf B x.fr wx rfl h1 (hf2.fr hx hB (by simp)) (Nat.le_trans hB hx.size)
  have HS := fun (wx : World) (hx : Fr w.heap.size [] w wx) => safe_any (c := cp) (hp2.fr hx hB (by simp)) (Nat.le_trans hB hx.size) (by unfold maxLen; omega)
  obtain ⟨nf, hnf⟩ : ∃ n, n = x.fr.length := ⟨_, rfl⟩
  obtain ⟨np, hnp⟩ : ∃ n, n = x.pg.length := ⟨_, rfl⟩
  rw [← hnf] at HU
  rw [← hnp] at HS
  rw [← hnf, ← hnp]
  obtain ⟨ub, hub⟩ : ∃ b, b = unlikeB x.fr := ⟨_, rfl⟩
  obtain ⟨sb, hsb⟩ : ∃ b, b = (chkL x.pg).isSome := ⟨_, rfl⟩
  rw [← hub] at HU
  rw [← hsb] at HS
  have HU := Lib.hid HU
  have HS := Lib.hid HS
  obtain ⟨kb, hkb⟩ : ∃ b, b = kindB x := ⟨_, rfl⟩
  rw [← hkb]
  have hkb2 : kb = if x.kind = 0 then decide (x.id = 0) && (decide (nf = 0) && decide (np = 0)) else if x.kind = 1 then !decide (x.id = 0) && (decide (nf = 1) && sb) else if x.kind = 2 then !decide (x.id = 0) && (decide (1 ≤ nf) && (decide (nf ≤ 3) && (ub && decide (np = 0)))) else false := by rw [hkb, hnf, hnp, hub, hsb]; rfl
  have HKB := Lib.hid hkb2
  have F1 := Lib.hid ((Fr.refl w.heap.size [] w).alloc (Nat.le_refl _) (.cells (ndA x (.slice Af nf cf) (.slice Ap np cp)) 38))
  have BX := Lib.hid (Blk.new w 38 (ndA x (.slice Af nf cf) (.slice Ap np cp)))
  clear hf2 hp2 hkb hkb2 hub hsb hnf hnp h1 h2
  go_enter Try.func79, Try.ntmps79
  go_upto_region 1 with fail
  generalize w.alloc (.cells (ndA x (.slice Af nf cf) (.slice Ap np cp)) 38) = w1 at *
  have q0 := BX.out.cell 0
  have q1 := BX.out.cell 1
  have q2 := BX.out.cell 2
  have q3 := BX.out.cell 3
  simp at q0 q1 q2 q3
  obtain ⟨id, hid⟩ : ∃ i, i = x.id := ⟨_, rfl⟩
  obtain ⟨kd, hkd⟩ : ∃ i, i = x.kind := ⟨_, rfl⟩
  rw [← hid] at q0 HKB
  rw [← hkd] at q1 HKB
  clear hid hkd
  by_cases k0 : kd = 0
  · subst k0
    by_cases i0 : id = 0
    · subst i0
      by_cases f0 : nf = 0
      · subst f0
        by_cases p0 : np = 0
        · subst p0
          have hkb : kb = true := by rw [HKB.out]; rfl
          have HV := Lib.hid hkb
          clear hkb
          go_wp2_with fail
          go_ret
          exact ⟨by rw [HV.out]; rfl, F1.out⟩
        · have hd : decide ((np : Int) = 0) = false := decide_eq_false (by omega)
          have hd2 : ((np : Int) == 0) = false := by simpa using p0
          have hkb : kb = false := by rw [HKB.out]; simp [p0]
          have HV := Lib.hid hkb
          clear hkb
          go_wp2_with fail
          go_ret
          exact ⟨by rw [HV.out]; rfl, F1.out⟩
      · have hd : decide ((nf : Int) = 0) = false := decide_eq_false (by omega)
        have hd2 : ((nf : Int) == 0) = false := by simpa using f0
        have hkb : kb = false := by rw [HKB.out]; simp [f0]
        have HV := Lib.hid hkb
        clear hkb
        go_wp2_with fail
        go_ret
        exact ⟨by rw [HV.out]; rfl, F1.out⟩
    · have hd : decide (id = 0) = false := decide_eq_false i0
      have hd2 : (id == 0) = false := by simpa using i0
      have hkb : kb = false := by rw [HKB.out]; simp [i0]
      have HV := Lib.hid hkb
      clear hkb
      go_wp2_with fail
      go_ret
      exact ⟨by rw [HV.out]; rfl, F1.out⟩
  have hk0 : decide (kd = 0) = false := decide_eq_false k0
  have hk00 : (kd == 0) = false := by simpa using k0
  by_cases k1 : kd = 1
  · subst k1
    by_cases i0 : id = 0
    · subst i0
      have hkb : kb = false := by rw [HKB.out]; simp
      have HV := Lib.hid hkb
      clear hkb
      go_wp2_with fail
      go_ret
      exact ⟨by rw [HV.out]; rfl, F1.out⟩
    have hd0 : decide (id = 0) = false := decide_eq_false i0
    have hd00 : (id != 0) = true := by simpa using i0
    by_cases f1 : nf = 1
    · subst f1
      have hkb : kb = sb := by rw [HKB.out]; simp [i0]
      have HV := Lib.hid hkb
      clear hkb
      go_wp2_with fail
      refine (HS.out _ F1.out).mono ?_
      rintro e w2 ⟨rfl, f2⟩
      have F2 := Lib.hid (F1.out.trans (f2.mono (B' := w.heap.size) (L' := []) F1.out.size (by simp)))
      clear f2
      go_wp2_with fail
      go_ret
      exact ⟨by rw [HV.out]; rfl, F2.out⟩
    · have hd : decide ((nf : Int) = 1) = false := decide_eq_false (by omega)
      have hd2 : ((nf : Int) == 1) = false := by simp; omega
      have hkb : kb = false := by rw [HKB.out]; simp [f1]
      have HV := Lib.hid hkb
      clear hkb
      go_wp2_with fail
      go_ret
      exact ⟨by rw [HV.out]; rfl, F1.out⟩
  have hk1 : decide (kd = 1) = false := decide_eq_false k1
  have hk11 : (kd == 1) = false := by simpa using k1
  by_cases k2 : kd = 2
  · subst k2
    by_cases i0 : id = 0
    · subst i0
      have hkb : kb = false := by rw [HKB.out]; simp
      have HV := Lib.hid hkb
      clear hkb
      go_wp2_with fail
      go_ret
      exact ⟨by rw [HV.out]; rfl, F1.out⟩
    have hd0 : decide (id = 0) = false := decide_eq_false i0
    have hd00 : (id != 0) = true := by simpa using i0
    by_cases f1 : 1 ≤ nf
    case neg =>
      have hd : decide ((1 : Int) ≤ (nf : Int)) = false := decide_eq_false (by omega)
      obtain rfl : nf = 0 := by omega
      have hkb : kb = false := by rw [HKB.out]; simp
      have HV := Lib.hid hkb
      clear hkb
      go_wp2_with fail
      go_ret
      exact ⟨by rw [HV.out]; rfl, F1.out⟩
    have hf1 : (1 : Int) ≤ (nf : Int) := by omega
    by_cases f3 : nf ≤ 3
    case neg =>
      have hd : decide ((nf : Int) ≤ 3) = false := decide_eq_false (by omega)
      have hkb : kb = false := by rw [HKB.out]; simp [f3]
      have HV := Lib.hid hkb
      clear hkb
      go_wp2_with fail
      go_ret
      exact ⟨by rw [HV.out]; rfl, F1.out⟩
    have hf3 : (nf : Int) ≤ 3 := by omega
    have hkb : kb = (ub && decide (np = 0)) := by rw [HKB.out]; simp [i0, f1, f3]
    have HV := Lib.hid hkb
    clear hkb
    cases ub with
    | false =>
      go_wp2_with fail
      refine (HU.out _ F1.out).mono ?_
      rintro e w2 ⟨rfl, f2⟩
      have F2 := Lib.hid (F1.out.trans (f2.mono (B' := w.heap.size) (L' := []) F1.out.size (by simp)))
      clear f2
      go_wp2_with fail
      go_ret
      exact ⟨by rw [HV.out]; rfl, F2.out⟩
    | true =>
      go_wp2_with fail
      refine (HU.out _ F1.out).mono ?_
      rintro e w2 ⟨rfl, f2⟩
      have F2 := Lib.hid (F1.out.trans (f2.mono (B' := w.heap.size) (L' := []) F1.out.size (by simp)))
      have BX2 := Lib.hid (BX.out.fr f2 BX.out.lt (by simp))
      have q3b := BX2.out.cell 3
      simp at q3b
      clear f2
      by_cases p0 : np = 0
      · subst p0
        go_wp2_with fail
        go_ret
        exact ⟨by rw [HV.out]; rfl, F2.out⟩
      · have hd : decide ((np : Int) = 0) = false := decide_eq_false (by omega)
        have hd2 : ((np : Int) == 0) = false := by simpa using p0
        have hkb : kb = false := by rw [HV.out]; simp [p0]
        have HV2 := Lib.hid hkb
        clear hkb
        go_wp2_with fail
        go_ret
        exact ⟨by rw [HV2.out]; rfl, F2.out⟩
  have hk2 : decide (kd = 2) = false := decide_eq_false k2
  have hk22 : (kd == 2) = false := by simpa using k2
  have hkb : kb = false := by rw [HKB.out]; simp [k0, k1, k2]
  have HV := Lib.hid hkb
  clear hkb
  go_wp2_with fail
  go_ret
  exact ⟨by rw [HV.out]; rfl, F1.out⟩
end Go.Proofs.Ytddngibfhklnfaa
