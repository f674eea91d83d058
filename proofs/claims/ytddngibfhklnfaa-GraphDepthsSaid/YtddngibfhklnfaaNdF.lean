/- The contract of graph.node. -/
import Derived.Test.YtddngibfhklnfaaNdC
import Derived.Test.YtddngibfhklnfaaNdD
import Derived.Test.YtddngibfhklnfaaNdE
namespace Go.Proofs.Ytddngibfhklnfaa
open Go.RowKit Go.Fb
/-- May a number not stand in From? -/
def aboveB (L : List Nd) (id : Int) : Bool := match findN L id with | none => true | some m => decide (m.kind = 2)
set_option maxRecDepth 100000 in
set_option maxHeartbeats 1000000 in
theorem above_any (id : Int) (gl : Nat) (A : Option Addr) (c B n : Nat) (M : List Ndm) (w : World) (hb : Blk w gl 22 #[.slice A n c]) (h : Nds w B A n M) (hB : B ≤ w.heap.size) (hs : Small M) :
    Calls Try.prog 78 #[.int .i64 id, .pointer (some ⟨gl, 0, none⟩)] w fun e w' => e = .returned (.bool (aboveB (M.map (·.1)) id)) ∧ Fr w.heap.size [] w w' := by
  have HF := Lib.hid (find_any id A c B n M w h hB hs)
  have c0 := hb.cell 0
  simp at c0
  obtain ⟨L, hL⟩ : ∃ L, L = M.map (·.1) := ⟨_, rfl⟩
  rw [← hL] at HF ⊢
  obtain ⟨ab, hab⟩ : ∃ b, b = aboveB L id := ⟨_, rfl⟩
  have HAB := Lib.hid hab
  rw [← hab]
  clear h hs hb hab hL
  go_enter Try.func78, Try.ntmps78
  go_wp2_with fail
  refine HF.out.mono ?_
  rintro e w1 ⟨hfd, f1⟩
  rcases hfd with ⟨hn, rfl⟩ | ⟨x, sf, sp, hfn, rfl, hin⟩
  · have hv : ab = true := by rw [HAB.out, aboveB, hn]
    have HV := Lib.hid hv
    have F1 := Lib.hid f1
    clear hv hn f1 HF
    go_wp2_with fail
    go_ret
    exact ⟨by rw [HV.out]; rfl, F1.out.alloc F1.out.size _⟩
  · obtain ⟨⟨Af, cf, hf, _⟩, ⟨Ap, cp, hp, _⟩⟩ := hin
    simp only at hf hp
    subst hf
    subst hp
    have hv : ab = decide (x.kind = 2) := by rw [HAB.out, aboveB, hfn]
    have HV := Lib.hid hv
    have F1 := Lib.hid f1
    clear hv hfn f1 HF
    by_cases k2 : x.kind = 2
    · have hd2 : (x.kind == 2) = true := by simpa using k2
      go_wp2_with fail
      go_ret
      exact ⟨by rw [HV.out, decide_eq_true k2]; rfl, F1.out.alloc F1.out.size _⟩
    · have hd2 : (x.kind == 2) = false := by simpa using k2
      go_wp2_with fail
      go_ret
      exact ⟨by rw [HV.out, decide_eq_false k2]; rfl, F1.out.alloc F1.out.size _⟩
/-- May a node be among others? -/
def nodeB (L : List Nd) (x : Nd) : Bool := decide (0 ≤ x.id) && (decide (x.id < 8) && (kindB x && (right8 x.par x.rt && !x.fr.any (aboveB L))))
set_option maxRecDepth 100000 in
set_option maxHeartbeats 4000000 in
theorem node_any (x : Nd) (sf sp : Value) (A : Option Addr) (c B n : Nat) (M : List Ndm) (w : World) (h : NdIn w B (x, sf, sp)) (hN : Nds w B A n M) (hB : B ≤ w.heap.size) (hs : Small M) (h1 : x.fr.length ≤ 1000000) (h2 : x.pg.length ≤ 1000000) :
    Calls Try.prog 47 #[.agg (ndA x sf sp), .slice A n c] w fun e w' => e = .returned (.bool (nodeB (M.map (·.1)) x)) ∧ Fr w.heap.size [] w w' := by
  have HIN := Lib.hid h
  obtain ⟨⟨Af, cf, hf1, hf2⟩, ⟨Ap, cp, hp1, hp2⟩⟩ := h
  simp only at hf1 hf2 hp1 hp2
  subst hf1
  subst hp1
  have HK := Lib.hid (fun (wx : World) (hx : Fr w.heap.size [] w wx) => kind_any x _ _ B wx (HIN.out.frw hx hB (by simp)) (Nat.le_trans hB hx.size) h1 h2)
  have HR := Lib.hid (fun (wx : World) => nroute_any x (.slice Af x.fr.length cf) (.slice Ap x.pg.length cp) wx)
  obtain ⟨nf, hnf⟩ : ∃ m, m = x.fr.length := ⟨_, rfl⟩
  obtain ⟨np, hnp⟩ : ∃ m, m = x.pg.length := ⟨_, rfl⟩
  rw [← hnf, ← hnp] at HK HR
  rw [← hnf] at hf2 h1
  rw [← hnf, ← hnp]
  obtain ⟨L, hL⟩ : ∃ L, L = M.map (·.1) := ⟨_, rfl⟩
  obtain ⟨nb, hnb⟩ : ∃ b, b = nodeB L x := ⟨_, rfl⟩
  have HL := Lib.hid hL
  have HNF := Lib.hid hnf
  have HFR := Lib.hid hf2
  have HND := Lib.hid hN
  have HSM := Lib.hid hs
  obtain ⟨kb, hkb⟩ : ∃ b, b = kindB x := ⟨_, rfl⟩
  obtain ⟨rb, hrb⟩ : ∃ b, b = right8 x.par x.rt := ⟨_, rfl⟩
  obtain ⟨ab, hab⟩ : ∃ b, b = x.fr.any (aboveB L) := ⟨_, rfl⟩
  have HNB := Lib.hid (show nb = (decide (0 ≤ x.id) && (decide (x.id < 8) && (kb && (rb && !ab)))) by rw [hnb, hkb, hrb, hab]; rfl)
  rw [← hkb] at HK
  rw [← hrb] at HR
  have HABB := Lib.hid hab
  rw [← hL, ← hnb]
  have BX := Lib.hid ((Blk.new w 38 (ndA x (.slice Af nf cf) (.slice Ap np cp))).alloc (.cells #[.slice A n c] 22))
  have BL0 := Blk.new (w.alloc (.cells (ndA x (.slice Af nf cf) (.slice Ap np cp)) 38)) 22 #[.slice A n c]
  rw [World.size_alloc] at BL0
  have BL := Lib.hid BL0
  have F1 := Lib.hid (((Fr.refl w.heap.size [] w).alloc (Nat.le_refl _) (.cells (ndA x (.slice Af nf cf) (.slice Ap np cp)) 38)).alloc (by simp) (.cells #[.slice A n c] 22))
  have hent := enters_of Try.func78 (by kernel_rfl) rfl
  clear hL hnb hN hs hkb hrb hab hf2 hp2 hnf hnp BL0 h2
  go_enter Try.func47, Try.ntmps47
  go_upto_region 2 with fail
  generalize (w.alloc _).alloc _ = w1 at *
  have q0 := BX.out.cell 0
  have q1 := BX.out.cell 1
  have q2 := BX.out.cell 2
  have q3 := BX.out.cell 3
  have q4 := BX.out.cell 4
  have q5 := BX.out.cell 5
  have q6 := BX.out.cell 6
  have q7 := BX.out.cell 7
  have q8 := BX.out.cell 8
  have q9 := BX.out.cell 9
  have q10 := BX.out.cell 10
  have q11 := BX.out.cell 11
  have q12 := BX.out.cell 12
  simp at q0 q1 q2 q3 q4 q5 q6 q7 q8 q9 q10 q11 q12
  obtain ⟨id, hid⟩ : ∃ i, i = x.id := ⟨_, rfl⟩
  by_cases i0 : 0 ≤ x.id
  case neg =>
    have hd : decide (0 ≤ x.id) = false := decide_eq_false i0
    have hv : nb = false := by rw [HNB.out]; simp [i0]
    have HV := Lib.hid hv
    clear hv
    go_wp2_with fail
    go_ret
    exact ⟨by rw [HV.out]; rfl, F1.out⟩
  by_cases i8 : x.id < 8
  case neg =>
    have hd : decide (x.id < 8) = false := decide_eq_false i8
    have hv : nb = false := by rw [HNB.out]; simp [i8]
    have HV := Lib.hid hv
    clear hv
    go_wp2_with fail
    go_ret
    exact ⟨by rw [HV.out]; rfl, F1.out⟩
  cases kb with
  | false =>
    have hv : nb = false := by rw [HNB.out]; simp
    have HV := Lib.hid hv
    clear hv
    go_wp2_with fail
    refine (HK.out _ F1.out).mono ?_
    rintro e w2 ⟨rfl, f2⟩
    have F2 := Lib.hid (F1.out.trans (f2.mono (B' := w.heap.size) (L' := []) F1.out.size (by simp)))
    clear f2
    go_wp2_with fail
    go_ret
    exact ⟨by rw [HV.out]; rfl, F2.out⟩
  | true =>
    go_wp2_with fail
    refine (HK.out _ F1.out).mono ?_
    rintro e w2 ⟨rfl, f2⟩
    have F2 := Lib.hid (F1.out.trans (f2.mono (B' := w.heap.size) (L' := []) F1.out.size (by simp)))
    have BX2 := Lib.hid (BX.out.fr f2 BX.out.lt (by simp))
    have BL2 := Lib.hid (BL.out.fr f2 BL.out.lt (by simp))
    clear f2 q0 q1 q2 q3 q4 q5 q6 q7 q8 q9 q10 q11 q12 HK BX BL F1
    have r0 := BX2.out.cell 0
    have r1 := BX2.out.cell 1
    have r2 := BX2.out.cell 2
    have r3 := BX2.out.cell 3
    have r4 := BX2.out.cell 4
    have r5 := BX2.out.cell 5
    have r6 := BX2.out.cell 6
    have r7 := BX2.out.cell 7
    have r8 := BX2.out.cell 8
    have r9 := BX2.out.cell 9
    have r10 := BX2.out.cell 10
    have r11 := BX2.out.cell 11
    have r12 := BX2.out.cell 12
    simp at r0 r1 r2 r3 r4 r5 r6 r7 r8 r9 r10 r11 r12
    cases rb with
    | false =>
      have hv : nb = false := by rw [HNB.out]; simp
      have HV := Lib.hid hv
      clear hv
      go_wp2_with fail
      refine (HR.out _).mono ?_
      rintro e w3 ⟨rfl, f3⟩
      have F3 := Lib.hid (F2.out.trans (f3.mono (B' := w.heap.size) (L' := []) F2.out.size (by simp)))
      clear f3
      go_wp2_with fail
      go_ret
      exact ⟨by rw [HV.out]; rfl, F3.out⟩
    | true =>
      go_wp2_with fail
      refine (HR.out _).mono ?_
      rintro e w3 ⟨rfl, f3⟩
      have F3 := Lib.hid (F2.out.trans (f3.mono (B' := w.heap.size) (L' := []) F2.out.size (by simp)))
      have BX3 := Lib.hid (BX2.out.fr f3 BX2.out.lt (by simp))
      have BL3 := Lib.hid (BL2.out.fr f3 BL2.out.lt (by simp))
      have s2 := BX3.out.cell 2
      simp at s2
      have HCT := jcontains_any 78 #[.pointer (some ⟨w.heap.size + 1, 0, none⟩)] (aboveB L) Af cf B nf x.fr w3 hent (fun k w' _ hf => by rw [HL.out]; exact above_any k (w.heap.size + 1) A c B n M w' (BL3.out.fr hf BL3.out.lt (by simp)) (HND.out.frw (F3.out.trans (hf.mono (B' := w.heap.size) (L' := []) F3.out.size (by simp))) hB (by simp)) (Nat.le_trans hB (Nat.le_trans F3.out.size hf.size)) HSM.out) HNF.out h1 (HFR.out.fr F3.out hB (by simp)) (Nat.le_trans hB F3.out.size)
      rw [← HABB.out] at HCT
      have HCT := Lib.hid HCT
      have hv : nb = !ab := by rw [HNB.out]; simp [i0, i8]
      have HV := Lib.hid hv
      clear hv f3 r0 r1 r2 r3 r4 r5 r6 r7 r8 r9 r10 r11 r12 HR BX2 BL2 F2
      go_wp2_with fail
      refine HCT.out.mono ?_
      rintro e w4 ⟨rfl, f4⟩
      have F4 := Lib.hid (F3.out.trans (f4.mono (B' := w.heap.size) (L' := []) F3.out.size (by simp)))
      clear f4
      go_wp2_with fail
      go_ret
      exact ⟨by rw [HV.out]; rfl, F4.out⟩
end Go.Proofs.Ytddngibfhklnfaa
