/- Texts merged into one, for the number of files a claim may have: NdE, NdF, GrP, GrQ, GrR. -/
import Derived.Test.YtfakgidimekikaaGreatMB
import Derived.Test.YtfakgidimekikaaGreatMChk
namespace Go.Proofs.YtfakgidimekikaaGreat
open Go.RowKit Go.Fb
theorem safe_any {A : Option Addr} {c B : Nat} {l : List (Int × Int)} {w : World} (hr : Reads w B 2 A l.length (cellsI l)) (hB : B ≤ w.heap.size) (hn : l.length ≤ maxLen) :
    Calls Tryz.prog 135 #[.slice A l.length c] w fun e w' => e = .returned (.bool (chkL l).isSome) ∧ Fr w.heap.size [] w w' := by
  cases h : chkL l with
  | none => exact safe_no hr hB hn h
  | some s => exact safe_yes hr hB hn h
/-- May a node be, by itself? -/
def kindB (x : Nd) : Bool :=
  if x.kind = 0 then decide (x.id = 0) && (decide (x.fr.length = 0) && decide (x.pg.length = 0))
  else if x.kind = 1 then !decide (x.id = 0) && (decide (x.fr.length = 1) && (chkL x.pg).isSome)
  else if x.kind = 2 then !decide (x.id = 0) && (decide (1 ≤ x.fr.length) && (decide (x.fr.length ≤ 3) && (unlikeB x.fr && decide (x.pg.length = 0))))
  else false
set_option maxRecDepth 100000 in
set_option maxHeartbeats 4000000 in
theorem kind_any (x : Nd) (sf sp : Value) (B : Nat) (w : World) (h : NdIn w B (x, sf, sp)) (hB : B ≤ w.heap.size) (h1 : x.fr.length ≤ 1000000) (h2 : x.pg.length ≤ 1000000) :
    Calls Tryz.prog 107 #[.agg (ndA x sf sp)] w fun e w' => e = .returned (.bool (kindB x)) ∧ Fr w.heap.size [] w w' := by
  obtain ⟨⟨Af, cf, hf1, hf2⟩, ⟨Ap, cp, hp1, hp2⟩⟩ := h
  simp only at hf1 hf2 hp1 hp2
  subst hf1
  subst hp1
  have HU := fun (wx : World) (hx : Fr w.heap.size [] w wx) => unlike_any Af x.fr.length cf B x.fr wx rfl h1 (hf2.fr hx hB (by simp)) (Nat.le_trans hB hx.size)
  have HS := fun (wx : World) (hx : Fr w.heap.size [] w wx) => safe_any (c := cp) (hp2.fr hx hB (by simp)) (Nat.le_trans hB hx.size) (by unfold maxLen; omega)
  obtain ⟨nf, hnf⟩ : ∃ n, n = x.fr.length := ⟨_, rfl⟩
  obtain ⟨np, hnp⟩ : ∃ n, n = x.pg.length := ⟨_, rfl⟩
  rw [← hnf] at HU
  rw [← hnp] at HS
  rw [← hnf, ← hnp]
  obtain ⟨ub, hub⟩ : ∃ b, b = unlikeB x.fr := ⟨_, rfl⟩
  obtain ⟨sb, hsb⟩ : ∃ b, b = (chkL x.pg).isSome := ⟨_, rfl⟩
  rw [← hub] at HU
  rw [← hsb] at HS
  have HU := Lib.hid HU
  have HS := Lib.hid HS
  obtain ⟨kb, hkb⟩ : ∃ b, b = kindB x := ⟨_, rfl⟩
  rw [← hkb]
  have hkb2 : kb = if x.kind = 0 then decide (x.id = 0) && (decide (nf = 0) && decide (np = 0)) else if x.kind = 1 then !decide (x.id = 0) && (decide (nf = 1) && sb) else if x.kind = 2 then !decide (x.id = 0) && (decide (1 ≤ nf) && (decide (nf ≤ 3) && (ub && decide (np = 0)))) else false := by rw [hkb, hnf, hnp, hub, hsb]; rfl
  have HKB := Lib.hid hkb2
  have F1 := Lib.hid ((Fr.refl w.heap.size [] w).alloc (Nat.le_refl _) (.cells (ndA x (.slice Af nf cf) (.slice Ap np cp)) 50))
  have BX := Lib.hid (Blk.new w 50 (ndA x (.slice Af nf cf) (.slice Ap np cp)))
  clear hf2 hp2 hkb hkb2 hub hsb hnf hnp h1 h2
  go_enter Tryz.func107, Tryz.ntmps107
  go_upto_region 1 with fail
  generalize w.alloc (.cells (ndA x (.slice Af nf cf) (.slice Ap np cp)) 50) = w1 at *
  have q0 := BX.out.cell 0
  have q1 := BX.out.cell 1
  have q2 := BX.out.cell 2
  have q3 := BX.out.cell 3
  simp at q0 q1 q2 q3
  obtain ⟨id, hid⟩ : ∃ i, i = x.id := ⟨_, rfl⟩
  obtain ⟨kd, hkd⟩ : ∃ i, i = x.kind := ⟨_, rfl⟩
  rw [← hid] at q0 HKB
  rw [← hkd] at q1 HKB
  clear hid hkd
  by_cases k0 : kd = 0
  · subst k0
    by_cases i0 : id = 0
    · subst i0
      by_cases f0 : nf = 0
      · subst f0
        by_cases p0 : np = 0
        · subst p0
          have hkb : kb = true := by rw [HKB.out]; rfl
          have HV := Lib.hid hkb
          clear hkb
          go_wp2_with fail
          go_ret
          exact ⟨by rw [HV.out]; rfl, F1.out⟩
        · have hd : decide ((np : Int) = 0) = false := decide_eq_false (by omega)
          have hd2 : ((np : Int) == 0) = false := by simpa using p0
          have hkb : kb = false := by rw [HKB.out]; simp [p0]
          have HV := Lib.hid hkb
          clear hkb
          go_wp2_with fail
          go_ret
          exact ⟨by rw [HV.out]; rfl, F1.out⟩
      · have hd : decide ((nf : Int) = 0) = false := decide_eq_false (by omega)
        have hd2 : ((nf : Int) == 0) = false := by simpa using f0
        have hkb : kb = false := by rw [HKB.out]; simp [f0]
        have HV := Lib.hid hkb
        clear hkb
        go_wp2_with fail
        go_ret
        exact ⟨by rw [HV.out]; rfl, F1.out⟩
    · have hd : decide (id = 0) = false := decide_eq_false i0
      have hd2 : (id == 0) = false := by simpa using i0
      have hkb : kb = false := by rw [HKB.out]; simp [i0]
      have HV := Lib.hid hkb
      clear hkb
      go_wp2_with fail
      go_ret
      exact ⟨by rw [HV.out]; rfl, F1.out⟩
  have hk0 : decide (kd = 0) = false := decide_eq_false k0
  have hk00 : (kd == 0) = false := by simpa using k0
  by_cases k1 : kd = 1
  · subst k1
    by_cases i0 : id = 0
    · subst i0
      have hkb : kb = false := by rw [HKB.out]; simp
      have HV := Lib.hid hkb
      clear hkb
      go_wp2_with fail
      go_ret
      exact ⟨by rw [HV.out]; rfl, F1.out⟩
    have hd0 : decide (id = 0) = false := decide_eq_false i0
    have hd00 : (id != 0) = true := by simpa using i0
    by_cases f1 : nf = 1
    · subst f1
      have hkb : kb = sb := by rw [HKB.out]; simp [i0]
      have HV := Lib.hid hkb
      clear hkb
      go_wp2_with fail
      refine (HS.out _ F1.out).mono ?_
      rintro e w2 ⟨rfl, f2⟩
      have F2 := Lib.hid (F1.out.trans (f2.mono (B' := w.heap.size) (L' := []) F1.out.size (by simp)))
      clear f2
      go_wp2_with fail
      go_ret
      exact ⟨by rw [HV.out]; rfl, F2.out⟩
    · have hd : decide ((nf : Int) = 1) = false := decide_eq_false (by omega)
      have hd2 : ((nf : Int) == 1) = false := by simp; omega
      have hkb : kb = false := by rw [HKB.out]; simp [f1]
      have HV := Lib.hid hkb
      clear hkb
      go_wp2_with fail
      go_ret
      exact ⟨by rw [HV.out]; rfl, F1.out⟩
  have hk1 : decide (kd = 1) = false := decide_eq_false k1
  have hk11 : (kd == 1) = false := by simpa using k1
  by_cases k2 : kd = 2
  · subst k2
    by_cases i0 : id = 0
    · subst i0
      have hkb : kb = false := by rw [HKB.out]; simp
      have HV := Lib.hid hkb
      clear hkb
      go_wp2_with fail
      go_ret
      exact ⟨by rw [HV.out]; rfl, F1.out⟩
    have hd0 : decide (id = 0) = false := decide_eq_false i0
    have hd00 : (id != 0) = true := by simpa using i0
    by_cases f1 : 1 ≤ nf
    case neg =>
      have hd : decide ((1 : Int) ≤ (nf : Int)) = false := decide_eq_false (by omega)
      obtain rfl : nf = 0 := by omega
      have hkb : kb = false := by rw [HKB.out]; simp
      have HV := Lib.hid hkb
      clear hkb
      go_wp2_with fail
      go_ret
      exact ⟨by rw [HV.out]; rfl, F1.out⟩
    have hf1 : (1 : Int) ≤ (nf : Int) := by omega
    by_cases f3 : nf ≤ 3
    case neg =>
      have hd : decide ((nf : Int) ≤ 3) = false := decide_eq_false (by omega)
      have hkb : kb = false := by rw [HKB.out]; simp [f3]
      have HV := Lib.hid hkb
      clear hkb
      go_wp2_with fail
      go_ret
      exact ⟨by rw [HV.out]; rfl, F1.out⟩
    have hf3 : (nf : Int) ≤ 3 := by omega
    have hkb : kb = (ub && decide (np = 0)) := by rw [HKB.out]; simp [i0, f1, f3]
    have HV := Lib.hid hkb
    clear hkb
    cases ub with
    | false =>
      go_wp2_with fail
      refine (HU.out _ F1.out).mono ?_
      rintro e w2 ⟨rfl, f2⟩
      have F2 := Lib.hid (F1.out.trans (f2.mono (B' := w.heap.size) (L' := []) F1.out.size (by simp)))
      clear f2
      go_wp2_with fail
      go_ret
      exact ⟨by rw [HV.out]; rfl, F2.out⟩
    | true =>
      go_wp2_with fail
      refine (HU.out _ F1.out).mono ?_
      rintro e w2 ⟨rfl, f2⟩
      have F2 := Lib.hid (F1.out.trans (f2.mono (B' := w.heap.size) (L' := []) F1.out.size (by simp)))
      have BX2 := Lib.hid (BX.out.fr f2 BX.out.lt (by simp))
      have q3b := BX2.out.cell 3
      simp at q3b
      clear f2
      by_cases p0 : np = 0
      · subst p0
        go_wp2_with fail
        go_ret
        exact ⟨by rw [HV.out]; rfl, F2.out⟩
      · have hd : decide ((np : Int) = 0) = false := decide_eq_false (by omega)
        have hd2 : ((np : Int) == 0) = false := by simpa using p0
        have hkb : kb = false := by rw [HV.out]; simp [p0]
        have HV2 := Lib.hid hkb
        clear hkb
        go_wp2_with fail
        go_ret
        exact ⟨by rw [HV2.out]; rfl, F2.out⟩
  have hk2 : decide (kd = 2) = false := decide_eq_false k2
  have hk22 : (kd == 2) = false := by simpa using k2
  have hkb : kb = false := by rw [HKB.out]; simp [k0, k1, k2]
  have HV := Lib.hid hkb
  clear hkb
  go_wp2_with fail
  go_ret
  exact ⟨by rw [HV.out]; rfl, F1.out⟩
end Go.Proofs.YtfakgidimekikaaGreat
namespace Go.Proofs.YtfakgidimekikaaGreat
open Go.RowKit Go.Fb
/-- May a number not stand in From? -/
def aboveB (L : List Nd) (id : Int) : Bool := match findN L id with | none => true | some m => decide (m.kind = 2)
set_option maxRecDepth 100000 in
set_option maxHeartbeats 1000000 in
theorem above_any (id : Int) (gl : Nat) (A : Option Addr) (c B n : Nat) (M : List Ndm) (w : World) (hb : Blk w gl 34 #[.slice A n c]) (h : Nds w B A n M) (hB : B ≤ w.heap.size) (hs : Small M) :
    Calls Tryz.prog 106 #[.int .i64 id, .pointer (some ⟨gl, 0, none⟩)] w fun e w' => e = .returned (.bool (aboveB (M.map (·.1)) id)) ∧ Fr w.heap.size [] w w' := by
  have HF := Lib.hid (find_any id A c B n M w h hB hs)
  have c0 := hb.cell 0
  simp at c0
  obtain ⟨L, hL⟩ : ∃ L, L = M.map (·.1) := ⟨_, rfl⟩
  rw [← hL] at HF ⊢
  obtain ⟨ab, hab⟩ : ∃ b, b = aboveB L id := ⟨_, rfl⟩
  have HAB := Lib.hid hab
  rw [← hab]
  clear h hs hb hab hL
  go_enter Tryz.func106, Tryz.ntmps106
  go_wp2_with fail
  refine HF.out.mono ?_
  rintro e w1 ⟨hfd, f1⟩
  rcases hfd with ⟨hn, rfl⟩ | ⟨x, sf, sp, hfn, rfl, hin⟩
  · have hv : ab = true := by rw [HAB.out, aboveB, hn]
    have HV := Lib.hid hv
    have F1 := Lib.hid f1
    clear hv hn f1 HF
    go_wp2_with fail
    go_ret
    exact ⟨by rw [HV.out]; rfl, F1.out.alloc F1.out.size _⟩
  · obtain ⟨⟨Af, cf, hf, _⟩, ⟨Ap, cp, hp, _⟩⟩ := hin
    simp only at hf hp
    subst hf
    subst hp
    have hv : ab = decide (x.kind = 2) := by rw [HAB.out, aboveB, hfn]
    have HV := Lib.hid hv
    have F1 := Lib.hid f1
    clear hv hfn f1 HF
    by_cases k2 : x.kind = 2
    · have hd2 : (x.kind == 2) = true := by simpa using k2
      go_wp2_with fail
      go_ret
      exact ⟨by rw [HV.out, decide_eq_true k2]; rfl, F1.out.alloc F1.out.size _⟩
    · have hd2 : (x.kind == 2) = false := by simpa using k2
      go_wp2_with fail
      go_ret
      exact ⟨by rw [HV.out, decide_eq_false k2]; rfl, F1.out.alloc F1.out.size _⟩
/-- May a node be among others? -/
def nodeB (L : List Nd) (x : Nd) : Bool := decide (0 ≤ x.id) && (decide (x.id < 8) && (kindB x && (right8 x.par x.rt && !x.fr.any (aboveB L))))
set_option maxRecDepth 100000 in
set_option maxHeartbeats 4000000 in
theorem node_any (x : Nd) (sf sp : Value) (A : Option Addr) (c B n : Nat) (M : List Ndm) (w : World) (h : NdIn w B (x, sf, sp)) (hN : Nds w B A n M) (hB : B ≤ w.heap.size) (hs : Small M) (h1 : x.fr.length ≤ 1000000) (h2 : x.pg.length ≤ 1000000) :
    Calls Tryz.prog 72 #[.agg (ndA x sf sp), .slice A n c] w fun e w' => e = .returned (.bool (nodeB (M.map (·.1)) x)) ∧ Fr w.heap.size [] w w' := by
  have HIN := Lib.hid h
  obtain ⟨⟨Af, cf, hf1, hf2⟩, ⟨Ap, cp, hp1, hp2⟩⟩ := h
  simp only at hf1 hf2 hp1 hp2
  subst hf1
  subst hp1
  have HK := Lib.hid (fun (wx : World) (hx : Fr w.heap.size [] w wx) => kind_any x _ _ B wx (HIN.out.frw hx hB (by simp)) (Nat.le_trans hB hx.size) h1 h2)
  have HR := Lib.hid (fun (wx : World) => nroute_any x (.slice Af x.fr.length cf) (.slice Ap x.pg.length cp) wx)
  obtain ⟨nf, hnf⟩ : ∃ m, m = x.fr.length := ⟨_, rfl⟩
  obtain ⟨np, hnp⟩ : ∃ m, m = x.pg.length := ⟨_, rfl⟩
  rw [← hnf, ← hnp] at HK HR
  rw [← hnf] at hf2 h1
  rw [← hnf, ← hnp]
  obtain ⟨L, hL⟩ : ∃ L, L = M.map (·.1) := ⟨_, rfl⟩
  obtain ⟨nb, hnb⟩ : ∃ b, b = nodeB L x := ⟨_, rfl⟩
  have HL := Lib.hid hL
  have HNF := Lib.hid hnf
  have HFR := Lib.hid hf2
  have HND := Lib.hid hN
  have HSM := Lib.hid hs
  obtain ⟨kb, hkb⟩ : ∃ b, b = kindB x := ⟨_, rfl⟩
  obtain ⟨rb, hrb⟩ : ∃ b, b = right8 x.par x.rt := ⟨_, rfl⟩
  obtain ⟨ab, hab⟩ : ∃ b, b = x.fr.any (aboveB L) := ⟨_, rfl⟩
  have HNB := Lib.hid (show nb = (decide (0 ≤ x.id) && (decide (x.id < 8) && (kb && (rb && !ab)))) by rw [hnb, hkb, hrb, hab]; rfl)
  rw [← hkb] at HK
  rw [← hrb] at HR
  have HABB := Lib.hid hab
  rw [← hL, ← hnb]
  have BX := Lib.hid ((Blk.new w 50 (ndA x (.slice Af nf cf) (.slice Ap np cp))).alloc (.cells #[.slice A n c] 34))
  have BL0 := Blk.new (w.alloc (.cells (ndA x (.slice Af nf cf) (.slice Ap np cp)) 50)) 34 #[.slice A n c]
  rw [World.size_alloc] at BL0
  have BL := Lib.hid BL0
  have F1 := Lib.hid (((Fr.refl w.heap.size [] w).alloc (Nat.le_refl _) (.cells (ndA x (.slice Af nf cf) (.slice Ap np cp)) 50)).alloc (by simp) (.cells #[.slice A n c] 34))
  have hent := enters_of Tryz.func106 (by kernel_rfl) rfl
  clear hL hnb hN hs hkb hrb hab hf2 hp2 hnf hnp BL0 h2
  go_enter Tryz.func72, Tryz.ntmps72
  go_upto_region 2 with fail
  generalize (w.alloc _).alloc _ = w1 at *
  have q0 := BX.out.cell 0
  have q1 := BX.out.cell 1
  have q2 := BX.out.cell 2
  have q3 := BX.out.cell 3
  have q4 := BX.out.cell 4
  have q5 := BX.out.cell 5
  have q6 := BX.out.cell 6
  have q7 := BX.out.cell 7
  have q8 := BX.out.cell 8
  have q9 := BX.out.cell 9
  have q10 := BX.out.cell 10
  have q11 := BX.out.cell 11
  have q12 := BX.out.cell 12
  simp at q0 q1 q2 q3 q4 q5 q6 q7 q8 q9 q10 q11 q12
  obtain ⟨id, hid⟩ : ∃ i, i = x.id := ⟨_, rfl⟩
  by_cases i0 : 0 ≤ x.id
  case neg =>
    have hd : decide (0 ≤ x.id) = false := decide_eq_false i0
    have hv : nb = false := by rw [HNB.out]; simp [i0]
    have HV := Lib.hid hv
    clear hv
    go_wp2_with fail
    go_ret
    exact ⟨by rw [HV.out]; rfl, F1.out⟩
  by_cases i8 : x.id < 8
  case neg =>
    have hd : decide (x.id < 8) = false := decide_eq_false i8
    have hv : nb = false := by rw [HNB.out]; simp [i8]
    have HV := Lib.hid hv
    clear hv
    go_wp2_with fail
    go_ret
    exact ⟨by rw [HV.out]; rfl, F1.out⟩
  cases kb with
  | false =>
    have hv : nb = false := by rw [HNB.out]; simp
    have HV := Lib.hid hv
    clear hv
    go_wp2_with fail
    refine (HK.out _ F1.out).mono ?_
    rintro e w2 ⟨rfl, f2⟩
    have F2 := Lib.hid (F1.out.trans (f2.mono (B' := w.heap.size) (L' := []) F1.out.size (by simp)))
    clear f2
    go_wp2_with fail
    go_ret
    exact ⟨by rw [HV.out]; rfl, F2.out⟩
  | true =>
    go_wp2_with fail
    refine (HK.out _ F1.out).mono ?_
    rintro e w2 ⟨rfl, f2⟩
    have F2 := Lib.hid (F1.out.trans (f2.mono (B' := w.heap.size) (L' := []) F1.out.size (by simp)))
    have BX2 := Lib.hid (BX.out.fr f2 BX.out.lt (by simp))
    have BL2 := Lib.hid (BL.out.fr f2 BL.out.lt (by simp))
    clear f2 q0 q1 q2 q3 q4 q5 q6 q7 q8 q9 q10 q11 q12 HK BX BL F1
    have r0 := BX2.out.cell 0
    have r1 := BX2.out.cell 1
    have r2 := BX2.out.cell 2
    have r3 := BX2.out.cell 3
    have r4 := BX2.out.cell 4
    have r5 := BX2.out.cell 5
    have r6 := BX2.out.cell 6
    have r7 := BX2.out.cell 7
    have r8 := BX2.out.cell 8
    have r9 := BX2.out.cell 9
    have r10 := BX2.out.cell 10
    have r11 := BX2.out.cell 11
    have r12 := BX2.out.cell 12
    simp at r0 r1 r2 r3 r4 r5 r6 r7 r8 r9 r10 r11 r12
    cases rb with
    | false =>
      have hv : nb = false := by rw [HNB.out]; simp
      have HV := Lib.hid hv
      clear hv
      go_wp2_with fail
      refine (HR.out _).mono ?_
      rintro e w3 ⟨rfl, f3⟩
      have F3 := Lib.hid (F2.out.trans (f3.mono (B' := w.heap.size) (L' := []) F2.out.size (by simp)))
      clear f3
      go_wp2_with fail
      go_ret
      exact ⟨by rw [HV.out]; rfl, F3.out⟩
    | true =>
      go_wp2_with fail
      refine (HR.out _).mono ?_
      rintro e w3 ⟨rfl, f3⟩
      have F3 := Lib.hid (F2.out.trans (f3.mono (B' := w.heap.size) (L' := []) F2.out.size (by simp)))
      have BX3 := Lib.hid (BX2.out.fr f3 BX2.out.lt (by simp))
      have BL3 := Lib.hid (BL2.out.fr f3 BL2.out.lt (by simp))
      have s2 := BX3.out.cell 2
      simp at s2
      have HCT := jcontains_any 106 #[.pointer (some ⟨w.heap.size + 1, 0, none⟩)] (aboveB L) Af cf B nf x.fr w3 hent (fun k w' _ hf => by rw [HL.out]; exact above_any k (w.heap.size + 1) A c B n M w' (BL3.out.fr hf BL3.out.lt (by simp)) (HND.out.frw (F3.out.trans (hf.mono (B' := w.heap.size) (L' := []) F3.out.size (by simp))) hB (by simp)) (Nat.le_trans hB (Nat.le_trans F3.out.size hf.size)) HSM.out) HNF.out h1 (HFR.out.fr F3.out hB (by simp)) (Nat.le_trans hB F3.out.size)
      rw [← HABB.out] at HCT
      have HCT := Lib.hid HCT
      have hv : nb = !ab := by rw [HNB.out]; simp [i0, i8]
      have HV := Lib.hid hv
      clear hv f3 r0 r1 r2 r3 r4 r5 r6 r7 r8 r9 r10 r11 r12 HR BX2 BL2 F2
      go_wp2_with fail
      refine HCT.out.mono ?_
      rintro e w4 ⟨rfl, f4⟩
      have F4 := Lib.hid (F3.out.trans (f4.mono (B' := w.heap.size) (L' := []) F3.out.size (by simp)))
      clear f4
      go_wp2_with fail
      go_ret
      exact ⟨by rw [HV.out]; rfl, F4.out⟩
end Go.Proofs.YtfakgidimekikaaGreat
namespace Go.Proofs.YtfakgidimekikaaGreat
def idsN (L : List Nd) : List Int := L.map (·.id)
def leN (a b : Nd) : Bool := decide (a.id ≤ b.id)
/-- The nodes by their numbers. -/
def normL (L : List Nd) : List Nd := L.mergeSort leN
def filtN (k : Int) (L : List Nd) : List Nd := L.filter fun n => decide (n.id = k)
abbrev SortedN (L : List Nd) : Prop := L.Pairwise fun a b => a.id ≤ b.id
theorem leN_trans (a b c : Nd) : leN a b = true → leN b c = true → leN a c = true := by simp [leN]; omega
theorem leN_total (a b : Nd) : (leN a b || leN b a) = true := by simp [leN]; omega
theorem normL_perm (L : List Nd) : (normL L).Perm L := List.mergeSort_perm _ _
theorem normL_len (L : List Nd) : (normL L).length = L.length := (normL_perm L).length_eq
theorem normL_sorted (L : List Nd) : SortedN (normL L) :=
  (List.pairwise_mergeSort leN_trans leN_total L).imp fun h => by simpa [leN] using h
theorem normL_mem {L : List Nd} {x : Nd} : x ∈ normL L ↔ x ∈ L := (normL_perm L).mem_iff
theorem normL_filt (k : Int) (L : List Nd) : filtN k (normL L) = filtN k L := by
  have h1 : (filtN k L).Sublist (normL L) := by
    refine List.sublist_mergeSort leN_trans leN_total ?_ List.filter_sublist
    refine List.Pairwise.imp_of_mem ?_ (List.pairwise_of_forall (R := fun _ _ => True) fun _ _ => trivial)
    intro a b ha hb _
    have ha := (List.mem_filter.1 ha).2
    have hb := (List.mem_filter.1 hb).2
    simp at ha hb
    simp [leN, ha, hb]
  have h2 : (filtN k L).Sublist (filtN k (normL L)) := by
    have := h1.filter fun n => decide (n.id = k)
    have e : (filtN k L).filter (fun n => decide (n.id = k)) = filtN k L := by unfold filtN; rw [List.filter_filter]; simp
    rw [e] at this
    exact this
  refine (h2.eq_of_length ?_).symm
  exact ((normL_perm L).filter _).length_eq.symm
theorem filtN_head {k : Int} {n : Nd} {L : List Nd} : filtN k (n :: L) = if n.id = k then n :: filtN k L else filtN k L := by
  unfold filtN
  rw [List.filter_cons]
  by_cases h : n.id = k <;> simp [h]
theorem sorted_uniq : ∀ {A B : List Nd}, SortedN A → SortedN B → (∀ k, filtN k A = filtN k B) → A = B
  | [], [], _, _, _ => rfl
  | [], b :: B, _, _, h => by
    have := h b.id
    rw [filtN_head, if_pos rfl] at this
    cases this
  | a :: A, [], _, _, h => by
    have := h a.id
    rw [filtN_head, if_pos rfl] at this
    cases this
  | a :: A, b :: B, hA, hB, h => by
    have hA' := List.pairwise_cons.1 hA
    have hB' := List.pairwise_cons.1 hB
    have hid : a.id = b.id := by
      have h1 : a.id ≤ b.id := by
        have hb : b ∈ filtN b.id (a :: A) := by rw [h b.id]; simp [filtN]
        have hb := (List.mem_filter.1 hb).1
        rcases List.mem_cons.1 hb with e | e
        · rw [e]; omega
        · exact hA'.1 b e
      have h2 : b.id ≤ a.id := by
        have hb : a ∈ filtN a.id (b :: B) := by rw [← h a.id]; simp [filtN]
        have hb := (List.mem_filter.1 hb).1
        rcases List.mem_cons.1 hb with e | e
        · rw [e]; omega
        · exact hB'.1 a e
      omega
    have hab : a = b := by
      have := h a.id
      rw [filtN_head, if_pos rfl, filtN_head, if_pos hid.symm] at this
      injection this
    subst hab
    congr 1
    refine sorted_uniq hA'.2 hB'.2 fun k => ?_
    have := h k
    rw [filtN_head, filtN_head] at this
    split at this
    · injection this
    · exact this
theorem normL_eq {R L : List Nd} (hs : SortedN R) (hf : ∀ k, filtN k R = filtN k L) : R = normL L := sorted_uniq hs (normL_sorted L) fun k => by rw [hf, normL_filt]
theorem normL_self {L : List Nd} (hs : SortedN L) : normL L = L := (normL_eq hs fun _ => rfl).symm
theorem normL_norm (L : List Nd) : normL (normL L) = normL L := normL_self (normL_sorted L)
theorem findN_filt (L : List Nd) (k : Int) : findN L k = (filtN k L).head? := by
  unfold findN filtN
  rw [List.head?_filter]
theorem findN_norm (L : List Nd) (k : Int) : findN (normL L) k = findN L k := by rw [findN_filt, findN_filt, normL_filt]
theorem findN_id {L : List Nd} {k : Int} {n : Nd} (h : findN L k = some n) : n.id = k := by simpa using List.find?_some h
theorem findN_mem {L : List Nd} {k : Int} {n : Nd} (h : findN L k = some n) : n ∈ L := List.mem_of_find?_eq_some h
theorem findN_ids {L : List Nd} {k : Int} : (∃ n, findN L k = some n) ↔ k ∈ idsN L := by
  constructor
  · rintro ⟨n, h⟩
    exact List.mem_map.2 ⟨n, findN_mem h, findN_id h⟩
  · intro h
    obtain ⟨n, hn, e⟩ := List.mem_map.1 h
    cases hf : findN L k with
    | some n => exact ⟨n, rfl⟩
    | none =>
      have := List.find?_eq_none.1 hf n hn
      simp [e] at this
theorem findN_one {L : List Nd} (hu : (idsN L).Nodup) {n : Nd} (hn : n ∈ L) : findN L n.id = some n := by
  induction L with
  | nil => cases hn
  | cons y L ih =>
    have hu' := List.nodup_cons.1 hu
    unfold findN
    rw [List.find?_cons]
    by_cases e : y.id = n.id
    · simp only [e, decide_true]
      rcases List.mem_cons.1 hn with h | h
      · rw [h]
      · exact absurd (List.mem_map.2 ⟨n, h, e.symm⟩) hu'.1
    · simp only [e, decide_false]
      rcases List.mem_cons.1 hn with h | h
      · subst h; exact absurd rfl e
      · exact ih hu'.2 h
/-- May a node stand next? -/
def readyB (out : List Int) (n : Nd) : Bool := !hasI out n.id && n.fr.all (hasI out)
/-- The order, so many steps of it. -/
def sortF (L : List Nd) : Nat → List Int
  | 0 => []
  | k + 1 => match L.find? (readyB (sortF L k)) with
    | none => sortF L k
    | some n => sortF L k ++ [n.id]
def sortN (L : List Nd) : List Int := sortF (normL L) L.length
theorem readyB_iff {out : List Int} {n : Nd} : readyB out n = true ↔ n.id ∉ out ∧ ∀ f ∈ n.fr, f ∈ out := by
  unfold readyB
  rw [Bool.and_eq_true, Bool.not_eq_true', List.all_eq_true]
  constructor
  · rintro ⟨h1, h2⟩
    exact ⟨(fun h => by rw [hasI_iff.2 h] at h1; cases h1), fun f hf => hasI_iff.1 (h2 f hf)⟩
  · rintro ⟨h1, h2⟩
    refine ⟨?_, fun f hf => hasI_iff.2 (h2 f hf)⟩
    cases hb : hasI out n.id with
    | false => rfl
    | true => exact absurd (hasI_iff.1 hb) h1
/-- What is so of the order, as far as it goes. -/
structure OrdN (L : List Nd) (out : List Int) : Prop where
  nodup : out.Nodup
  each : ∀ i x, out[i]? = some x → ∃ n ∈ L, n.id = x ∧ ∀ f ∈ n.fr, f ∈ out.take i
theorem OrdN.sub {L : List Nd} {out : List Int} (h : OrdN L out) : ∀ x ∈ out, x ∈ idsN L := by
  intro x hx
  obtain ⟨i, hi⟩ := List.getElem?_of_mem hx
  obtain ⟨n, hn, e, _⟩ := h.each i x hi
  exact List.mem_map.2 ⟨n, hn, e⟩
theorem OrdN.le {L : List Nd} {out : List Int} (h : OrdN L out) : out.length ≤ L.length := by
  have := nodup_sub h.nodup h.sub
  simpa [idsN] using this
theorem OrdN.snoc {L : List Nd} {out : List Int} (h : OrdN L out) {n : Nd} (hn : n ∈ L) (hr : readyB out n = true) : OrdN L (out ++ [n.id]) := by
  obtain ⟨h1, h2⟩ := readyB_iff.1 hr
  refine ⟨?_, fun i x hi => ?_⟩
  · rw [List.nodup_append]
    refine ⟨h.nodup, by simp, ?_⟩
    intro a ha b hb
    simp at hb
    subst hb
    rintro rfl
    exact h1 ha
  · rcases Nat.lt_or_ge i out.length with hlt | hge
    · rw [List.getElem?_append_left hlt] at hi
      obtain ⟨m, hm, e, hf⟩ := h.each i x hi
      refine ⟨m, hm, e, fun f hff => ?_⟩
      rw [List.take_append_of_le_length (by omega)]
      exact hf f hff
    · rw [List.getElem?_append_right hge] at hi
      have hi0 : i = out.length := by
        rcases Nat.eq_zero_or_pos (i - out.length) with h0 | h0
        · omega
        · rw [List.getElem?_eq_none (by simp; omega)] at hi; cases hi
      subst hi0
      simp at hi
      subst hi
      refine ⟨n, hn, rfl, fun f hf => ?_⟩
      rw [List.take_append_of_le_length (by omega), List.take_length]
      exact h2 f hf
theorem sortF_ord (L : List Nd) : ∀ k, OrdN L (sortF L k)
  | 0 => ⟨List.nodup_nil, fun i x h => by simp [sortF] at h⟩
  | k + 1 => by
    unfold sortF
    split
    · exact sortF_ord L k
    · rename_i n hn
      exact (sortF_ord L k).snoc (List.mem_of_find?_eq_some hn) (by simpa using List.find?_some hn)
theorem sortF_stay {L : List Nd} {k : Nat} (h : L.find? (readyB (sortF L k)) = none) : ∀ j, sortF L (k + j) = sortF L k
  | 0 => rfl
  | j + 1 => by
    have ih := sortF_stay h j
    show (match L.find? (readyB (sortF L (k + j))) with | none => sortF L (k + j) | some n => sortF L (k + j) ++ [n.id]) = _
    rw [ih, h]
theorem sortF_some {L : List Nd} {k : Nat} {n : Nd} (h : L.find? (readyB (sortF L k)) = some n) : sortF L (k + 1) = sortF L k ++ [n.id] := by
  show (match L.find? (readyB (sortF L k)) with | none => sortF L k | some n => sortF L k ++ [n.id]) = _
  rw [h]
theorem sortF_room {L : List Nd} {k : Nat} {n : Nd} (hk : (sortF L k).length = k) (h : L.find? (readyB (sortF L k)) = some n) : k < L.length := by
  have := (sortF_ord L (k + 1)).le
  rw [sortF_some h, List.length_append, hk] at this
  simp at this
  omega
theorem sortF_end {L : List Nd} {k : Nat} (hk : k ≤ L.length) (h : L.find? (readyB (sortF L k)) = none) : sortF L L.length = sortF L k := by
  obtain ⟨j, hj⟩ : ∃ j, L.length = k + j := ⟨L.length - k, by omega⟩
  rw [hj]
  exact sortF_stay h j
end Go.Proofs.YtfakgidimekikaaGreat
namespace Go.Proofs.YtfakgidimekikaaGreat
/-- Can a node be come to, up by From, in so many steps? -/
def aboveN (L : List Nd) (t : Int) : Nat → Int → Bool
  | 0, _ => false
  | s + 1, f => match findN L f with
    | none => false
    | some n => n.fr.any fun k => decide (k = t) || aboveN L t s k
def Edge (L : List Nd) (x y : Int) : Prop := ∃ n, findN L x = some n ∧ y ∈ n.fr
theorem aboveN_edge {L : List Nd} {t f : Int} (s : Nat) (h : Edge L f t) : aboveN L t (s + 1) f = true := by
  obtain ⟨n, hn, hf⟩ := h
  unfold aboveN
  rw [hn]
  simp only
  rw [List.any_eq_true]
  exact ⟨t, hf, by simp⟩
theorem aboveN_step {L : List Nd} {t f k : Int} {s : Nat} (h : Edge L f k) (ha : aboveN L t s k = true) : aboveN L t (s + 1) f = true := by
  obtain ⟨n, hn, hf⟩ := h
  unfold aboveN
  rw [hn]
  simp only
  rw [List.any_eq_true]
  exact ⟨k, hf, by simp [ha]⟩
theorem aboveN_cases {L : List Nd} {t f : Int} {s : Nat} (h : aboveN L t (s + 1) f = true) : ∃ k, Edge L f k ∧ (k = t ∨ aboveN L t s k = true) := by
  unfold aboveN at h
  cases hn : findN L f with
  | none => rw [hn] at h; cases h
  | some n =>
    rw [hn] at h
    obtain ⟨k, hk, hh⟩ := List.any_eq_true.1 h
    exact ⟨k, ⟨n, hn, hk⟩, by simpa using hh⟩
theorem aboveN_more {L : List Nd} {t : Int} : ∀ {s f : _}, aboveN L t s f = true → aboveN L t (s + 1) f = true
  | 0, _, h => by cases h
  | s + 1, f, h => by
    obtain ⟨k, he, hk⟩ := aboveN_cases h
    rcases hk with rfl | hk
    · exact aboveN_edge _ he
    · exact aboveN_step he (aboveN_more hk)
theorem aboveN_le {L : List Nd} {t f : Int} {s s' : Nat} (h : aboveN L t s f = true) (hs : s ≤ s') : aboveN L t s' f = true := by
  induction hs with
  | refl => exact h
  | step _ ih => exact aboveN_more ih
/-- A rank that rises from each From. -/
def Ranked (L : List Nd) : Prop := ∃ r : Int → Nat, ∀ n ∈ L, ∀ f ∈ n.fr, r f < r n.id
theorem ranked_above {L : List Nd} {r : Int → Nat} (hr : ∀ n ∈ L, ∀ f ∈ n.fr, r f < r n.id) {t : Int} : ∀ {s : Nat} {f : Int}, aboveN L t s f = true → r t < r f
  | 0, _, h => by cases h
  | s + 1, f, h => by
    obtain ⟨k, ⟨n, hn, hk⟩, hh⟩ := aboveN_cases h
    have h1 := hr n (findN_mem hn) k hk
    rw [findN_id hn] at h1
    rcases hh with rfl | hh
    · exact h1
    · exact Nat.lt_trans (ranked_above hr hh) h1
def posI : List Int → Int → Nat
  | [], _ => 0
  | y :: l, x => if y = x then 0 else posI l x + 1
theorem posI_get : ∀ {l : List Int} {x : Int}, x ∈ l → l[posI l x]? = some x
  | [], _, h => by cases h
  | y :: l, x, h => by
    unfold posI
    by_cases e : y = x
    · simp [e]
    · rw [if_neg e]
      rcases List.mem_cons.1 h with h | h
      · exact absurd h.symm e
      · simpa using posI_get h
theorem posI_le : ∀ {l : List Int} {x : Int} {j : Nat}, l[j]? = some x → posI l x ≤ j
  | [], _, _, h => by simp at h
  | y :: l, x, 0, h => by simp at h; simp [posI, h]
  | y :: l, x, j + 1, h => by
    unfold posI
    have := posI_le (l := l) (x := x) (j := j) (by simpa using h)
    split <;> omega
theorem posI_take {l : List Int} {x : Int} {i : Nat} (h : x ∈ l.take i) : posI l x < i := by
  obtain ⟨j, hj⟩ := List.getElem?_of_mem h
  rw [List.getElem?_take] at hj
  split at hj
  · exact Nat.lt_of_le_of_lt (posI_le hj) ‹_›
  · cases hj
theorem full_sub {a b : List Int} (ha : a.Nodup) (hs : ∀ x ∈ a, x ∈ b) (hl : b.length ≤ a.length) : ∀ x ∈ b, x ∈ a := by
  intro x hx
  refine Classical.byContradiction fun hn => ?_
  have := nodup_sub (a := x :: a) (b := b) (List.nodup_cons.2 ⟨hn, ha⟩) (fun y hy => by
    rcases List.mem_cons.1 hy with rfl | h
    · exact hx
    · exact hs y h)
  simp at this
  omega
theorem sortN_ord (L : List Nd) : OrdN L (sortN L) := by
  have h := sortF_ord (normL L) L.length
  exact ⟨h.nodup, fun i x hi => by obtain ⟨n, hn, r⟩ := h.each i x hi; exact ⟨n, normL_mem.1 hn, r⟩⟩
abbrev Complete (L : List Nd) : Prop := (sortN L).length = L.length
theorem complete_all {L : List Nd} (h : Complete L) {n : Nd} (hn : n ∈ L) : n.id ∈ sortN L :=
  full_sub (sortN_ord L).nodup (sortN_ord L).sub (by rw [h]; simp [idsN]) _ (List.mem_map.2 ⟨n, hn, rfl⟩)
theorem id_inj {L : List Nd} (hu : (idsN L).Nodup) {a b : Nd} (ha : a ∈ L) (hb : b ∈ L) (h : a.id = b.id) : a = b := by
  have h1 := findN_one hu ha
  have h2 := findN_one hu hb
  rw [h, h2] at h1
  injection h1 with h1
  exact h1.symm
theorem complete_rank {L : List Nd} (hu : (idsN L).Nodup) (h : Complete L) : ∀ n ∈ L, ∀ f ∈ n.fr, posI (sortN L) f < posI (sortN L) n.id := by
  intro n hn f hf
  obtain ⟨m, hm, e, hh⟩ := (sortN_ord L).each _ _ (posI_get (complete_all h hn))
  have := id_inj hu hm hn e
  subst this
  exact posI_take (hh f hf)
theorem complete_ranked {L : List Nd} (hu : (idsN L).Nodup) (h : Complete L) : Ranked L := ⟨_, complete_rank hu h⟩
theorem sortF_go (L : List Nd) : ∀ k, (sortF L k).length = k ∨ ∃ j, j < k ∧ (sortF L j).length = j ∧ L.find? (readyB (sortF L j)) = none
  | 0 => .inl rfl
  | k + 1 => by
    rcases sortF_go L k with h | ⟨j, hj, h⟩
    · cases hf : L.find? (readyB (sortF L k)) with
      | none => exact .inr ⟨k, by omega, h, hf⟩
      | some n => left; rw [sortF_some hf, List.length_append, h]; rfl
    · exact .inr ⟨j, by omega, h⟩
theorem chain_above {L : List Nd} {a : Nat → Int} (h : ∀ k, Edge L (a k) (a (k + 1))) : ∀ (d i s : Nat), d + 1 ≤ s → aboveN L (a (i + d + 1)) s (a i) = true
  | 0, i, s, hs => by
    obtain ⟨s, rfl⟩ : ∃ s', s = s' + 1 := ⟨s - 1, by omega⟩
    exact aboveN_edge _ (h i)
  | d + 1, i, s, hs => by
    obtain ⟨s, rfl⟩ : ∃ s', s = s' + 1 := ⟨s - 1, by omega⟩
    have := chain_above h d (i + 1) s (by omega)
    rw [show i + 1 + d + 1 = i + (d + 1) + 1 by omega] at this
    exact aboveN_step (h i) this
theorem two_alike {a : Nat → Int} {l : List Int} {m : Nat} (hl : l.length ≤ m) (ha : ∀ k, a k ∈ l) : ∃ i j, i < j ∧ j ≤ m ∧ a i = a j := by
  refine Classical.byContradiction fun hn => ?_
  have hnd : ((List.range (m + 1)).map a).Nodup := by
    rw [List.nodup_iff_pairwise_ne, List.pairwise_map]
    refine List.Pairwise.imp_of_mem ?_ List.pairwise_lt_range
    intro i j _ hj hij e
    exact hn ⟨i, j, hij, by have := List.mem_range.1 hj; omega, e⟩
  have := nodup_sub hnd (b := l) (by
    intro x hx
    obtain ⟨k, _, rfl⟩ := List.mem_map.1 hx
    exact ha k)
  simp at this
  omega
theorem froms_there {L : List Nd} {n : Nd} (h : nodeB L n = true) : ∀ f ∈ n.fr, ∃ m, findN L f = some m ∧ m.kind ≠ 2 := by
  intro f hf
  unfold nodeB at h
  simp only [Bool.and_eq_true, Bool.not_eq_true', List.any_eq_false] at h
  have h1 := h.2.2.2.2 f hf
  unfold aboveB at h1
  cases hm : findN L f with
  | none => rw [hm] at h1; simp at h1
  | some m => rw [hm] at h1; exact ⟨m, rfl, by simpa using h1⟩
theorem acyclic_complete {L : List Nd} (hl : L.length ≤ 8) (hn : ∀ n ∈ L, nodeB L n = true) (hu : (idsN L).Nodup) (hc : ∀ n ∈ L, aboveN L n.id 9 n.id = false) : Complete L := by
  refine Classical.byContradiction fun hnc => ?_
  rcases sortF_go (normL L) L.length with h | ⟨j, hj, hjl, hnone⟩
  · exact hnc h
  have hs : sortN L = sortF (normL L) j := by
    unfold sortN
    rw [← normL_len L]
    exact sortF_end (by rw [normL_len]; omega) hnone
  rw [← hs] at hnone
  let P : Int → Prop := fun x => x ∈ idsN L ∧ x ∉ sortN L
  have hstep : ∀ x, ∃ y, P x → P y ∧ Edge L x y := by
    intro x
    by_cases hp : P x
    · obtain ⟨n, hf⟩ := findN_ids.2 hp.1
      have hr := List.find?_eq_none.1 hnone n (normL_mem.2 (findN_mem hf))
      have hr2 : ¬ (∀ f ∈ n.fr, f ∈ sortN L) := fun h => hr (readyB_iff.2 ⟨by rw [findN_id hf]; exact hp.2, h⟩)
      obtain ⟨f, hff⟩ := Classical.not_forall.1 hr2
      obtain ⟨hfm, hfo⟩ := Classical.not_imp.1 hff
      obtain ⟨m, hm, _⟩ := froms_there (hn n (findN_mem hf)) f hfm
      exact ⟨f, fun _ => ⟨⟨findN_ids.1 ⟨m, hm⟩, hfo⟩, n, hf, hfm⟩⟩
    · exact ⟨x, fun h => absurd h hp⟩
  obtain ⟨g, hg⟩ := Classical.axiomOfChoice hstep
  have hx0 : ∃ x, P x := by
    refine Classical.byContradiction fun hno => ?_
    have := nodup_sub hu (b := sortN L) (fun x hx => Classical.byContradiction fun hx' => hno ⟨x, hx, hx'⟩)
    have h2 := (sortN_ord L).le
    simp [idsN] at this
    omega
  obtain ⟨x0, hx0⟩ := hx0
  let a : Nat → Int := fun k => Nat.rec x0 (fun _ y => g y) k
  have ha : ∀ k, P (a k) := by
    intro k
    induction k with
    | zero => exact hx0
    | succ k ih => exact (hg _ ih).1
  have he : ∀ k, Edge L (a k) (a (k + 1)) := fun k => (hg _ (ha k)).2
  obtain ⟨i, j', hij, hj8, haij⟩ := two_alike (m := 8) (l := idsN L) (by simpa [idsN] using hl) (fun k => (ha k).1)
  have := chain_above he (j' - i - 1) i 9 (by omega)
  rw [show i + (j' - i - 1) + 1 = j' by omega, ← haij] at this
  obtain ⟨n, hf⟩ := findN_ids.2 (ha i).1
  have h9 := hc n (findN_mem hf)
  rw [findN_id hf, this] at h9
  cases h9
/-- A right graph. -/
structure RightG (L : List Nd) : Prop where
  len : L.length ≤ 8
  each : ∀ n ∈ L, nodeB L n = true
  uni : (idsN L).Nodup
  zero : 0 ∈ idsN L
  rank : Ranked L
theorem RightG.complete {L : List Nd} (h : RightG L) : Complete L := by
  obtain ⟨r, hr⟩ := h.rank
  refine acyclic_complete h.len h.each h.uni fun n hn => ?_
  cases hb : aboveN L n.id 9 n.id with
  | false => rfl
  | true => have := ranked_above hr hb; omega
/-- The error's number. -/
def checkN (L : List Nd) : Int :=
  if 8 < L.length then 6 else if L.all (nodeB L) && (unlikeB (idsN L) && (hasI (idsN L) 0 && decide ((sortN L).length = L.length))) then 0 else 10
theorem checkN_zero {L : List Nd} : checkN L = 0 ↔ RightG L := by
  unfold checkN
  by_cases h8 : 8 < L.length
  · rw [if_pos h8]
    exact ⟨(fun h => by cases h), (fun h => by have := h.len; omega)⟩
  · rw [if_neg h8]
    constructor
    · intro h
      split at h
      · rename_i hh
        simp only [Bool.and_eq_true, List.all_eq_true, unlikeB, decide_eq_true_eq] at hh
        exact ⟨by omega, hh.1, hh.2.1, hasI_iff.1 hh.2.2.1, complete_ranked hh.2.1 hh.2.2.2⟩
      · cases h
    · intro h
      rw [if_pos]
      simp only [Bool.and_eq_true, List.all_eq_true, unlikeB, decide_eq_true_eq]
      exact ⟨h.each, h.uni, hasI_iff.2 h.zero, h.complete⟩
theorem checkN_long {L : List Nd} : checkN L = 6 ↔ 8 < L.length := by
  unfold checkN
  by_cases h8 : 8 < L.length
  · simp [h8]
  · rw [if_neg h8]
    split <;> simp [h8]
theorem checkN_three (L : List Nd) : checkN L = 0 ∨ checkN L = 6 ∨ checkN L = 10 := by
  unfold checkN
  split
  · exact .inr (.inl rfl)
  · split
    · exact .inl rfl
    · exact .inr (.inr rfl)
end Go.Proofs.YtfakgidimekikaaGreat
namespace Go.Proofs.YtfakgidimekikaaGreat
theorem kids_mem : ∀ (L : List Nd) (id : Int) (out : List Int) (c : Int), c ∈ kidsN L id out ↔ c ∈ out ∨ ∃ n ∈ L, n.id = c ∧ id ∈ n.fr
  | [], id, out, c => by simp [kidsN]
  | x :: L, id, out, c => by
    unfold kidsN
    rw [kids_mem L id _ c]
    by_cases h : hasI x.fr id = true
    · have hx : id ∈ x.fr := hasI_iff.1 h
      by_cases h2 : hasI out x.id = true
      · have h2' : x.id ∈ out := hasI_iff.1 h2
        rw [if_neg (by simp [h, h2])]
        constructor
        · rintro (h | ⟨n, hn, e⟩)
          · exact .inl h
          · exact .inr ⟨n, by simp [hn], e⟩
        · rintro (h | ⟨n, hn, e, hf⟩)
          · exact .inl h
          · rcases List.mem_cons.1 hn with rfl | hn
            · left; rw [← e]; exact h2'
            · exact .inr ⟨n, hn, e, hf⟩
      · rw [if_pos (by simp [h, h2])]
        constructor
        · rintro (h | ⟨n, hn, e⟩)
          · rcases List.mem_append.1 h with h | h
            · exact .inl h
            · exact .inr ⟨x, by simp, (List.mem_singleton.1 h).symm, hx⟩
          · exact .inr ⟨n, by simp [hn], e⟩
        · rintro (h | ⟨n, hn, e, hf⟩)
          · exact .inl (by simp [h])
          · rcases List.mem_cons.1 hn with rfl | hn
            · exact .inl (by simp [e])
            · exact .inr ⟨n, hn, e, hf⟩
    · rw [if_neg (by simp [h])]
      have hx : id ∉ x.fr := fun hx => h (hasI_iff.2 hx)
      constructor
      · rintro (h | ⟨n, hn, e⟩)
        · exact .inl h
        · exact .inr ⟨n, by simp [hn], e⟩
      · rintro (h | ⟨n, hn, e, hf⟩)
        · exact .inl h
        · rcases List.mem_cons.1 hn with rfl | hn
          · exact absurd hf hx
          · exact .inr ⟨n, hn, e, hf⟩
theorem childN_mem {L : List Nd} {id c : Int} : c ∈ childN L id ↔ ∃ n ∈ L, n.id = c ∧ id ∈ n.fr := by
  unfold childN
  rw [(srt_perm _).mem_iff, kids_mem]
  simp
theorem kids_nodup : ∀ (L : List Nd) (id : Int) (out : List Int), out.Nodup → (kidsN L id out).Nodup
  | [], _, _, h => h
  | x :: L, id, out, h => by
    unfold kidsN
    refine kids_nodup L id _ ?_
    split
    · rename_i hc
      simp only [Bool.and_eq_true, Bool.not_eq_true'] at hc
      have hn : x.id ∉ out := fun hm => by have := hasI_iff.2 hm; rw [hc.2] at this; cases this
      rw [List.nodup_append]
      refine ⟨h, by simp, fun a ha b hb => ?_⟩
      simp at hb
      subst hb
      rintro rfl
      exact hn ha
    · exact h
theorem childN_rises (L : List Nd) (id : Int) : (childN L id).Pairwise (· < ·) := by
  have h1 := srt_sorted (kidsN L id [])
  have h2 : (childN L id).Nodup := (srt_perm _).nodup_iff.2 (kids_nodup L id [] List.nodup_nil)
  have h3 := List.nodup_iff_pairwise_ne.1 h2
  unfold childN at h3 ⊢
  exact (List.Pairwise.and h1 h3).imp fun h => by omega
theorem childN_nil {L : List Nd} {id : Int} : (childN L id).length = 0 ↔ ∀ n ∈ L, id ∉ n.fr := by
  constructor
  · intro h n hn hf
    have := childN_mem.2 ⟨n, hn, rfl, hf⟩
    rw [List.eq_nil_of_length_eq_zero h] at this
    cases this
  · intro h
    cases hc : childN L id with
    | nil => rfl
    | cons c l =>
      obtain ⟨n, hn, _, hf⟩ := childN_mem.1 (show c ∈ childN L id by rw [hc]; simp)
      exact absurd hf (h n hn)
theorem nodeB_iff {L : List Nd} {x : Nd} : nodeB L x = true ↔ 0 ≤ x.id ∧ x.id < 8 ∧ kindB x = true ∧ right8 x.par x.rt = true ∧ ∀ f ∈ x.fr, ∃ m, findN L f = some m ∧ m.kind ≠ 2 := by
  constructor
  · intro h
    have h2 := froms_there h
    unfold nodeB at h
    simp only [Bool.and_eq_true, decide_eq_true_eq] at h
    exact ⟨h.1, h.2.1, h.2.2.1, h.2.2.2.1, h2⟩
  · rintro ⟨h1, h2, h3, h4, h5⟩
    unfold nodeB
    simp only [Bool.and_eq_true, decide_eq_true_eq, Bool.not_eq_true', List.any_eq_false]
    refine ⟨h1, h2, h3, h4, fun f hf => ?_⟩
    obtain ⟨m, hm, hk⟩ := h5 f hf
    unfold aboveB
    rw [hm]
    simpa using hk
theorem kindB_zero {x : Nd} (h : kindB x = true) : x.id = 0 ↔ x.kind = 0 := by
  unfold kindB at h
  by_cases k0 : x.kind = 0
  · rw [if_pos k0] at h
    simp only [Bool.and_eq_true, decide_eq_true_eq] at h
    exact ⟨fun _ => k0, fun _ => h.1⟩
  · rw [if_neg k0] at h
    constructor
    · intro hi
      rw [hi] at h
      split at h
      · simp at h
      · split at h
        · simp at h
        · cases h
    · intro hk; exact absurd hk k0
theorem findN_app {L : List Nd} {s : Nd} {k : Int} : findN (L ++ [s]) k = match findN L k with
    | some n => some n
    | none => if s.id = k then some s else none := by
  unfold findN
  rw [List.find?_append]
  cases h : L.find? fun x => decide (x.id = k) with
  | some n => rfl
  | none =>
    by_cases e : s.id = k <;> simp [e]
/-- A sink of one node. -/
def snkN (id frm : Int) : Nd := ⟨id, 2, 1, [frm], [], fun _ => 0⟩
theorem snk_right8 : right8 1 (fun _ => 0) = true := by unfold right8 inTo; simp
theorem grow_sink {L : List Nd} (h : RightG L) {id frm : Int} (h1 : 1 ≤ id) (h7 : id ≤ 7) :
    RightG (L ++ [snkN id frm]) ↔ (findN L id).isSome = false ∧ (∃ n, findN L frm = some n ∧ n.kind ≠ 2) ∧ L.length + 1 ≤ 8 := by
  constructor
  · intro g
    have hni : id ∉ idsN L := fun hm => by
      have := g.uni
      simp only [idsN, List.map_append, List.map_cons, List.map_nil] at this
      rw [List.nodup_append] at this
      exact this.2.2 id hm id (by simp [snkN]) rfl
    have hf : findN L id = none := by
      cases hf : findN L id with
      | none => rfl
      | some n => exact absurd (findN_ids.1 ⟨n, hf⟩) hni
    refine ⟨by rw [hf]; rfl, ?_, by have := g.len; simpa using this⟩
    obtain ⟨m, hm, hk⟩ := (nodeB_iff.1 (g.each (snkN id frm) (by simp))).2.2.2.2 frm (by simp [snkN])
    rw [findN_app] at hm
    cases hg : findN L frm with
    | some n => rw [hg] at hm; injection hm with hm; exact ⟨n, rfl, by rw [hm]; exact hk⟩
    | none =>
      rw [hg] at hm
      simp only at hm
      split at hm
      · injection hm with hm
        rw [← hm] at hk
        exact absurd rfl hk
      · cases hm
  · rintro ⟨hnone, ⟨n, hn, hnk⟩, hl⟩
    have hnn : findN L id = none := by
      cases hf : findN L id with
      | none => rfl
      | some n => rw [hf] at hnone; cases hnone
    have hni : id ∉ idsN L := fun hm => by
      obtain ⟨n, hn⟩ := findN_ids.2 hm
      rw [hnn] at hn
      cases hn
    have key : ∀ f m, findN L f = some m → findN (L ++ [snkN id frm]) f = some m := by
      intro f m hm
      rw [findN_app, hm]
    refine ⟨by simpa using hl, ?_, ?_, ?_, ?_⟩
    · intro x hx
      rcases List.mem_append.1 hx with hx | hx
      · obtain ⟨a1, a2, a3, a4, a5⟩ := nodeB_iff.1 (h.each x hx)
        exact nodeB_iff.2 ⟨a1, a2, a3, a4, fun f hf => by
          obtain ⟨m, hm, hk⟩ := a5 f hf
          exact ⟨m, key f m hm, hk⟩⟩
      · have hx := List.mem_singleton.1 hx
        subst hx
        refine nodeB_iff.2 ⟨by show (0 : Int) ≤ id; omega, by show id < 8; omega, ?_, snk_right8, fun f hf => ?_⟩
        · have hne : ¬ id = 0 := by omega
          simp [kindB, snkN, unlikeB, hne]
        · have : f = frm := by simpa [snkN] using hf
          subst this
          exact ⟨n, key _ _ hn, hnk⟩
    · simp only [idsN, List.map_append, List.map_cons, List.map_nil]
      rw [List.nodup_append]
      refine ⟨h.uni, by simp, fun a ha b hb => ?_⟩
      simp [snkN] at hb
      subst hb
      rintro rfl
      exact hni ha
    · have := h.zero
      simp only [idsN, List.map_append]
      exact List.mem_append.2 (.inl this)
    · obtain ⟨r, hr⟩ := h.rank
      refine ⟨fun x => if x = id then r frm + 1 else r x, fun x hx f hf => ?_⟩
      rcases List.mem_append.1 hx with hxl | hxl
      · have hxi : x.id ≠ id := fun e => hni (e ▸ List.mem_map.2 ⟨x, hxl, rfl⟩)
        have hfi : f ≠ id := by
          rintro rfl
          obtain ⟨m, hm, _⟩ := (nodeB_iff.1 (h.each x hxl)).2.2.2.2 _ hf
          exact hni (findN_ids.1 ⟨m, hm⟩)
        simp only [hxi, hfi, if_false]
        exact hr x hxl f hf
      · have hx := List.mem_singleton.1 hxl
        subst hx
        have hff : f = frm := by simpa [snkN] using hf
        subst hff
        have hfi : f ≠ id := by
          intro e
          rw [e, hnn] at hn
          cases hn
        simp [snkN, hfi]
theorem filtN_erase {L : List Nd} {i : Nat} {x : Nd} (hx : L[i]? = some x) {k : Int} (hk : k ≠ x.id) : filtN k (L.take i ++ L.drop (i + 1)) = filtN k L := by
  have hi : i < L.length := (List.getElem?_eq_some_iff.1 hx).1
  have e : L = L.take i ++ x :: L.drop (i + 1) := by
    conv => lhs; rw [← List.take_append_drop i L]
    rw [List.drop_eq_getElem_cons hi, (List.getElem?_eq_some_iff.1 hx).2]
  conv => rhs; rw [e]
  unfold filtN
  rw [List.filter_append, List.filter_append, List.filter_cons]
  have hkx : ¬ x.id = k := fun h => hk h.symm
  simp [hkx]
theorem mem_erase {L : List Nd} {i : Nat} {x : Nd} (hx : L[i]? = some x) {y : Nd} (hy : y ∈ L) (hne : y ≠ x) : y ∈ L.take i ++ L.drop (i + 1) := by
  have hi : i < L.length := (List.getElem?_eq_some_iff.1 hx).1
  have e : L = L.take i ++ x :: L.drop (i + 1) := by
    conv => lhs; rw [← List.take_append_drop i L]
    rw [List.drop_eq_getElem_cons hi, (List.getElem?_eq_some_iff.1 hx).2]
  rw [e] at hy
  rcases List.mem_append.1 hy with h | h
  · exact List.mem_append.2 (.inl h)
  · rcases List.mem_cons.1 h with h | h
    · exact absurd h hne
    · exact List.mem_append.2 (.inr h)
theorem sub_erase (L : List Nd) (i : Nat) : (L.take i ++ L.drop (i + 1)).Sublist L := by
  conv => rhs; rw [← List.take_append_drop i L]
  exact (List.Sublist.refl _).append (by rw [show L.drop (i + 1) = (L.drop i).drop 1 by rw [List.drop_drop]]; exact List.drop_sublist _ _)
theorem gone_id {L : List Nd} (hu : (idsN L).Nodup) {i : Nat} {x : Nd} (hx : L[i]? = some x) : x.id ∉ idsN (L.take i ++ L.drop (i + 1)) := by
  intro hm
  have hi : i < L.length := (List.getElem?_eq_some_iff.1 hx).1
  have e : L = L.take i ++ x :: L.drop (i + 1) := by
    conv => lhs; rw [← List.take_append_drop i L]
    rw [List.drop_eq_getElem_cons hi, (List.getElem?_eq_some_iff.1 hx).2]
  rw [e] at hu
  simp only [idsN, List.map_append, List.map_cons] at hu hm
  rw [List.nodup_append] at hu
  rcases List.mem_append.1 hm with h | h
  · exact hu.2.2 _ h _ (by simp) rfl
  · exact (List.nodup_cons.1 hu.2.1).1 h
theorem less_node {L : List Nd} (h : RightG L) {i : Nat} {x : Nd} (hx : L[i]? = some x) :
    RightG (L.take i ++ L.drop (i + 1)) ↔ x.kind ≠ 0 ∧ (childN L x.id).length = 0 := by
  have hxm := List.mem_of_getElem? hx
  have hsub := sub_erase L i
  constructor
  · intro g
    constructor
    · intro hk
      have hz := (kindB_zero (nodeB_iff.1 (h.each x hxm)).2.2.1).2 hk
      have := gone_id h.uni hx
      rw [hz] at this
      exact this g.zero
    · rw [childN_nil]
      intro n hn hf
      obtain ⟨r, hr⟩ := h.rank
      have hne : n ≠ x := by
        rintro rfl
        have := hr n hn _ hf
        omega
      obtain ⟨m, hm, _⟩ := (nodeB_iff.1 (g.each n (mem_erase hx hn hne))).2.2.2.2 x.id hf
      exact gone_id h.uni hx (findN_ids.1 ⟨m, hm⟩)
  · rintro ⟨hk, hc⟩
    rw [childN_nil] at hc
    refine ⟨Nat.le_trans hsub.length_le h.len, ?_, ?_, ?_, ?_⟩
    · intro n hn
      have hnL := hsub.subset hn
      obtain ⟨a1, a2, a3, a4, a5⟩ := nodeB_iff.1 (h.each n hnL)
      refine nodeB_iff.2 ⟨a1, a2, a3, a4, fun f hf => ?_⟩
      obtain ⟨m, hm, hmk⟩ := a5 f hf
      refine ⟨m, ?_, hmk⟩
      rw [findN_filt, filtN_erase hx, ← findN_filt]
      · exact hm
      · rintro rfl
        exact hc n hnL hf
    · exact h.uni.sublist (hsub.map _)
    · obtain ⟨z, hz, e⟩ := List.mem_map.1 h.zero
      refine List.mem_map.2 ⟨z, mem_erase hx hz ?_, e⟩
      rintro rfl
      exact hk ((kindB_zero (nodeB_iff.1 (h.each z hz)).2.2.1).1 e)
    · obtain ⟨r, hr⟩ := h.rank
      exact ⟨r, fun n hn f hf => hr n (hsub.subset hn) f hf⟩
end Go.Proofs.YtfakgidimekikaaGreat
