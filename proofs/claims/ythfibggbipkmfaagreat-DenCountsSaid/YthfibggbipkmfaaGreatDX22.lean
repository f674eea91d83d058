/- Texts merged into one, for the number of files a claim may have: PlAwake, Idle. -/
import Derived.Test.YthfibggbipkmfaaGreatDX11
import Derived.Test.YthfibggbipkmfaaGreatDX20
import Derived.Test.YthfibggbipkmfaaGreatDX21
namespace Go.Proofs.YthfibggbipkmfaaGreat
open Go.RowKit Go.Fb
set_option linter.unusedVariables false
def greatP (L : List Nd) (P : List Stp) : Bool := greatN L || (decide (20 < P.length) || P.any fun s => greatN [s.nd])
set_option maxRecDepth 100000 in
set_option maxHeartbeats 4000000 in
theorem great10_any (A A2 : Option Addr) (c c2 B n n2 : Nat) (M : List Ndm) (S : List Stm) (w : World) (h : Nds w B A n M) (hB : B ≤ w.heap.size) (hm : n ≤ maxLen) (hS : Sts w B A2 n2 S) (hm2 : n2 ≤ maxLen) :
    Calls Tryz.prog 29 #[.slice A n c, .slice A2 n2 c2] w fun e w' => e = .returned (.bool (greatP (fstN M) (fstS S))) ∧ Fr w.heap.size [] w w' := by
  obtain ⟨L, hL⟩ : ∃ L, L = fstN M := ⟨_, rfl⟩
  obtain ⟨P, hP⟩ : ∃ P, P = fstS S := ⟨_, rfl⟩
  obtain ⟨v, hv⟩ : ∃ v, v = greatP L P := ⟨_, rfl⟩
  obtain ⟨g0, hg0⟩ : ∃ v, v = greatN L := ⟨_, rfl⟩
  have hpl : P.length = n2 := by rw [hP, hS.num]; simp [fstS]
  have HG := Lib.hid (by rw [hg0, hL]; exact great08_any A c B n M w h hB hm : Calls Tryz.prog 28 #[.slice A n c] w fun e w' => e = .returned (.bool g0) ∧ Fr w.heap.size [] w w')
  rw [← hL, ← hP, ← hv]
  have HV := Lib.hid (show v = (g0 || (decide (20 < n2) || P.any fun s => greatN [s.nd])) by rw [hv, hg0, ← hpl]; rfl)
  have HP := Lib.hid hP
  have HST := Lib.hid hS
  have HNU := Lib.hid hS.num
  unfold maxLen at hm2
  clear hL hP hv hg0 h hS hpl
  go_enter Tryz.func29, Tryz.ntmps29
  go_wp2_with fail
  refine HG.out.mono ?_
  rintro e w1 ⟨rfl, f1⟩
  have F1 := Lib.hid f1
  clear f1 HG
  cases g0 with
  | true =>
    have HV1 := Lib.hid (show v = true by rw [HV.out]; rfl)
    go_wp2_with fail
    go_ret
    exact ⟨by rw [HV1.out]; rfl, F1.out⟩
  | false => ?_
  by_cases h20 : 20 < n2
  · have HV1 := Lib.hid (show v = true by rw [HV.out, decide_eq_true h20]; rfl)
    have h21 : (20 : Int) < (n2 : Int) := by omega
    go_wp2_with fail
    go_ret
    exact ⟨by rw [HV1.out]; rfl, F1.out⟩
  have h21 : ¬ (20 : Int) < (n2 : Int) := by omega
  have hn20 : n2 ≤ 20 := by omega
  have HVA := Lib.hid (show v = P.any (fun s => greatN [s.nd]) by rw [HV.out, decide_eq_false h20]; rfl)
  clear HV h20
  go_wp2_with fail
  go_loopg [6, 16] n2 (fun g s6 s16 wr => ∃ (k : Nat), k ≤ n2 ∧ g = n2 - k ∧ s16 = .int .i64 k ∧ (s6 = undef ∨ ∃ a, s6 = .pointer a) ∧ RowKit.Hid (∀ s ∈ P.take k, greatN [s.nd] = false) ∧ RowKit.Hid (Fr w.heap.size [] w wr))
  case atStart => exact ⟨0, Nat.zero_le _, rfl, rfl, .inl rfl, Lib.hid (by simp), F1⟩
  case round =>
    clear F1
    obtain ⟨k, hk, rfl, rfl, h8, HB, FR⟩ := hrel
    by_cases hkn : k < n2
    · have hki : (k : Int) < (n2 : Int) := by omega
      have hk0 : (0 : Int) ≤ (k : Int) := by omega
      obtain ⟨m, hx⟩ : ∃ m, S[k]? = some m := ⟨_, List.getElem?_eq_getElem (by rw [← HNU.out]; exact hkn)⟩
      have HSW := HST.out.frw FR.out hB (by simp)
      obtain ⟨b1, o1, rfl, hb1, hc1⟩ := HSW.get hx
      have hin := HSW.inn m (List.mem_of_getElem? hx)
      have HTK := Lib.hid (show P.take (k + 1) = P.take k ++ [m.1] by rw [HP.out, List.take_add_one]; simp [fstS, hx])
      have HMM := Lib.hid (show m.1 ∈ P by rw [HP.out]; exact List.mem_map.2 ⟨m, List.mem_of_getElem? hx, rfl⟩)
      obtain ⟨⟨kd, y, rs⟩, sf, sp⟩ := m
      simp only at hin HTK HMM
      obtain ⟨⟨Af, cf, hf1, hf2⟩, ⟨Ap, cp, hp1, hp2⟩⟩ := hin
      simp only at hf1 hp1 hf2 hp2
      subst hf1
      subst hp1
      have hin2 : NdIn wr B (y, .slice Af y.fr.length cf, .slice Ap y.pg.length cp) := ⟨⟨Af, cf, rfl, hf2⟩, ⟨Ap, cp, rfl, hp2⟩⟩
      clear hf2 hp2
      obtain ⟨nf, hnf⟩ : ∃ z, z = y.fr.length := ⟨_, rfl⟩
      obtain ⟨np, hnp⟩ : ∃ z, z = y.pg.length := ⟨_, rfl⟩
      rw [← hnf, ← hnp] at hin2 hc1
      have p0 := hc1 0 (.int .i64 kd) rfl
      have p1 := hc1 1 (.int .i64 y.id) rfl
      have p2 := hc1 2 (.int .i64 y.kind) rfl
      have p3 := hc1 3 (.slice Af nf cf) rfl
      have p4 := hc1 4 (.slice Ap np cp) rfl
      have p5 := hc1 5 (.int .i64 y.par) rfl
      have p6 := hc1 6 (.int .i64 (y.rt 0)) rfl
      have p7 := hc1 7 (.int .i64 (y.rt 1)) rfl
      have p8 := hc1 8 (.int .i64 (y.rt 2)) rfl
      have p9 := hc1 9 (.int .i64 (y.rt 3)) rfl
      have p10 := hc1 10 (.int .i64 (y.rt 4)) rfl
      have p11 := hc1 11 (.int .i64 (y.rt 5)) rfl
      have p12 := hc1 12 (.int .i64 (y.rt 6)) rfl
      have p13 := hc1 13 (.int .i64 (y.rt 7)) rfl
      have p14 := hc1 14 (.bool rs) rfl
      simp only [Nat.add_zero] at p0
      have HIN := Lib.hid hin2
      clear hc1 hx HSW hin2 hnf hnp
      have BX := Lib.hid (Blk.new wr 110 (stA kd y rs (.slice Af nf cf) (.slice Ap np cp)))
      have fa := (Fr.refl wr.heap.size [] wr).alloc (Nat.le_refl _) (.cells (stA kd y rs (.slice Af nf cf) (.slice Ap np cp)) 110)
      have FA := Lib.hid (FR.out.trans (fa.mono (B' := w.heap.size) (L' := []) FR.out.size (by simp)))
      have HIA := Lib.hid (HIN.out.frw fa (Nat.le_trans hB FR.out.size) (by simp))
      have hBa : B ≤ (wr.alloc (.cells (stA kd y rs (.slice Af nf cf) (.slice Ap np cp)) 110)).heap.size := Nat.le_trans hB FA.out.size
      clear fa
      go_upto_region 6 with fail
      clear p0 p1 p2 p3 p4 p5 p6 p7 p8 p9 p10 p11 p12 p13 p14
      generalize wr.alloc (.cells (stA kd y rs (.slice Af nf cf) (.slice Ap np cp)) 110) = wa at *
      generalize wr.heap.size = gx at BX
      have q1 := BX.out.cell 1
      have q2 := BX.out.cell 2
      have q3 := BX.out.cell 3
      have q4 := BX.out.cell 4
      have q5 := BX.out.cell 5
      have q6 := BX.out.cell 6
      have q7 := BX.out.cell 7
      have q8 := BX.out.cell 8
      have q9 := BX.out.cell 9
      have q10 := BX.out.cell 10
      have q11 := BX.out.cell 11
      have q12 := BX.out.cell 12
      have q13 := BX.out.cell 13
      simp at q1 q2 q3 q4 q5 q6 q7 q8 q9 q10 q11 q12 q13
      have fb := (Fr.refl wa.heap.size [] wa).alloc (Nat.le_refl _) (.cells (ndA y (.slice Af nf cf) (.slice Ap np cp)) 49)
      have hns : Nds (wa.alloc (.cells (ndA y (.slice Af nf cf) (.slice Ap np cp)) 49)) (wa.heap.size + 1) (some ⟨wa.heap.size, 0, none⟩) 1 [(y, .slice Af nf cf, .slice Ap np cp)] := ⟨rfl, by
        have := Reads.of_blk (size := 13) (m := 1) (Blk.new wa 49 (ndA y (.slice Af nf cf) (.slice Ap np cp))) rfl
        exact this, fun m hm => by
        rw [List.mem_singleton.1 hm]
        exact (HIA.out.frw fb hBa (by simp)).more (by omega)⟩
      obtain ⟨gk, hgk⟩ : ∃ g, g = greatN [y] := ⟨_, rfl⟩
      have HGK := Lib.hid (by rw [hgk]; exact great08_any (some ⟨wa.heap.size, 0, none⟩) 1 _ 1 _ _ hns (by simp) (by simp [maxLen]) : Calls Tryz.prog 28 #[.slice (some ⟨wa.heap.size, 0, none⟩) 1 1] (wa.alloc (.cells (ndA y (.slice Af nf cf) (.slice Ap np cp)) 49)) fun e w' => e = .returned (.bool gk) ∧ Fr (wa.alloc (.cells (ndA y (.slice Af nf cf) (.slice Ap np cp)) 49)).heap.size [] (wa.alloc (.cells (ndA y (.slice Af nf cf) (.slice Ap np cp)) 49)) w')
      have HGV := Lib.hid hgk
      have FB := Lib.hid (FA.out.trans (fb.mono (B' := w.heap.size) (L' := []) FA.out.size (by simp)))
      clear fb hns hgk
      go_wp2_with fail
      refine HGK.out.mono ?_
      rintro e w3 ⟨rfl, f3⟩
      have F3 := Lib.hid (FB.out.trans (f3.mono (B' := w.heap.size) (L' := []) FB.out.size (by simp)))
      clear f3 HGK
      cases gk with
      | true =>
        have HV1 := Lib.hid (show v = true by rw [HVA.out, List.any_eq_true]; exact ⟨_, HMM.out, HGV.out.symm⟩)
        go_wp2_with fail
        go_ret
        exact ⟨by rw [HV1.out]; rfl, F3.out⟩
      | false =>
        have HB2 := Lib.hid (show ∀ s ∈ P.take (k + 1), greatN [s.nd] = false from fun s hs => by
          rw [HTK.out] at hs
          rcases List.mem_append.1 hs with hs | hs
          · exact HB.out s hs
          · rw [List.mem_singleton.1 hs]; exact HGV.out.symm)
        go_wp2_with fail
        go_roundg (n2 - (k + 1))
        case measure => omega
        case rel => exact ⟨k + 1, by omega, rfl, by go_num, .inr ⟨_, rfl⟩, HB2, F3⟩
    · obtain rfl : k = n2 := by omega
      have HV1 := Lib.hid (show v = false by
        rw [HVA.out, List.any_eq_false]
        intro s hs
        have htk : P.take k = P := List.take_of_length_le (by rw [HP.out, HNU.out]; simp [fstS])
        rw [← htk] at hs
        simp [HB.out s hs])
      go_wp2_with fail
      go_ret
      exact ⟨by rw [HV1.out]; rfl, FR.out⟩
end Go.Proofs.YthfibggbipkmfaaGreat
namespace Go.Proofs.YthfibggbipkmfaaGreat
open Go.RowKit Go.Fb
set_option linter.unusedVariables false
set_option maxRecDepth 100000 in
set_option maxHeartbeats 1000000 in
theorem sindex_any (F : FuncId) (cap : Array Value) (p : Stp → Bool) (A : Option Addr) (c B n : Nat) (S : List Stm) (w : World) (hent : ∀ (args : Array Value) (w : World), (callFunc F args).run Tryz.prog w = .ok (.enter F args) w)
    (hF : ∀ (m : Stm) (w' : World), m ∈ S → Fr w.heap.size [] w w' → Calls Tryz.prog F (#[.agg (stV m.1 m.2.1 m.2.2)] ++ cap) w' fun e w'' => e = .returned (.bool (p m.1)) ∧ Fr w'.heap.size [] w' w'')
    (hm : n ≤ 1000000) (h : Sts w B A n S) (hB : B ≤ w.heap.size) :
    Calls Tryz.prog 84 #[.slice A n c, .func (.func F) #[] cap] w fun e w' => ∃ i : Int, e = .returned (.int .i64 i) ∧ ((i = -1 ∧ ∀ m ∈ S, p m.1 = false) ∨ ∃ (k : Nat) (m : Stm), i = (k : Int) ∧ S[k]? = some m ∧ p m.1 = true ∧ ∀ j y, j < k → S[j]? = some y → p y.1 = false) ∧ Fr w.heap.size [] w w' := by
  have HF := Lib.hid hF
  have H := Lib.hid h
  have HN := Lib.hid h.num
  clear hF h
  go_enter Tryz.func84, Tryz.ntmps84
  go_wp2_with fail
  go_loopg [8] n (fun g s8 wr => ∃ k : Nat, k ≤ n ∧ g = n - k ∧ s8 = .int .i64 k ∧ RowKit.Hid (∀ j y, j < k → S[j]? = some y → p y.1 = false) ∧ RowKit.Hid (Fr w.heap.size [] w wr))
  case atStart => exact ⟨0, Nat.zero_le _, rfl, rfl, Lib.hid (fun j y h => absurd h (by omega)), Lib.hid (Fr.refl _ _ _)⟩
  case round =>
    obtain ⟨k, hk, rfl, rfl, HP, FR⟩ := hrel
    by_cases hkn : k < n
    · have hki : (k : Int) < (n : Int) := by omega
      have hk0 : (0 : Int) ≤ (k : Int) := by omega
      obtain ⟨m, hx⟩ : ∃ m, S[k]? = some m := ⟨_, List.getElem?_eq_getElem (by rw [← HN.out]; exact hkn)⟩
      obtain ⟨b1, o1, rfl, hb1, hc1⟩ := (H.out.frw FR.out hB (by simp)).get hx
      obtain ⟨⟨kd, y, rs⟩, sf, sp⟩ := m
      have p0 := hc1 0 (.int .i64 kd) rfl
      have p1 := hc1 1 (.int .i64 y.id) rfl
      have p2 := hc1 2 (.int .i64 y.kind) rfl
      have p3 := hc1 3 (sf) rfl
      have p4 := hc1 4 (sp) rfl
      have p5 := hc1 5 (.int .i64 y.par) rfl
      have p6 := hc1 6 (.int .i64 (y.rt 0)) rfl
      have p7 := hc1 7 (.int .i64 (y.rt 1)) rfl
      have p8 := hc1 8 (.int .i64 (y.rt 2)) rfl
      have p9 := hc1 9 (.int .i64 (y.rt 3)) rfl
      have p10 := hc1 10 (.int .i64 (y.rt 4)) rfl
      have p11 := hc1 11 (.int .i64 (y.rt 5)) rfl
      have p12 := hc1 12 (.int .i64 (y.rt 6)) rfl
      have p13 := hc1 13 (.int .i64 (y.rt 7)) rfl
      have p14 := hc1 14 (.bool rs) rfl
      simp only [Nat.add_zero] at p0
      have HC := HF.out (⟨kd, y, rs⟩, sf, sp) wr (List.mem_of_getElem? hx) FR.out
      have HX := Lib.hid hx
      clear hc1 hx
      obtain ⟨b, hb⟩ : ∃ b, b = p ⟨kd, y, rs⟩ := ⟨_, rfl⟩
      rw [← hb] at HC
      have HC := Lib.hid HC
      have HPX := Lib.hid hb
      clear hb
      cases b with
      | true =>
        go_wp2_with fail
        refine HC.out.mono ?_
        rintro e w2 ⟨rfl, f2⟩
        have F2 := Lib.hid (FR.out.trans (f2.mono (B' := w.heap.size) (L' := []) FR.out.size (by simp)))
        clear f2 HC
        go_wp2_with fail
        go_ret
        exact ⟨k, rfl, .inr ⟨k, _, rfl, HX.out, HPX.out.symm, HP.out⟩, F2.out⟩
      | false =>
        go_wp2_with fail
        refine HC.out.mono ?_
        rintro e w2 ⟨rfl, f2⟩
        have F2 := Lib.hid (FR.out.trans (f2.mono (B' := w.heap.size) (L' := []) FR.out.size (by simp)))
        clear f2 HC
        go_wp2_with fail
        go_roundg (n - (k + 1))
        case measure => omega
        case rel =>
          refine ⟨k + 1, by omega, rfl, by go_num, Lib.hid fun j y hj hy => ?_, F2⟩
          rcases Nat.lt_or_ge j k with h | h
          · exact HP.out j y h hy
          · have : j = k := by omega
            subst this
            rw [HX.out] at hy
            injection hy with hy
            rw [← hy]
            exact HPX.out.symm
    · obtain rfl : k = n := by omega
      go_wp2_with fail
      go_ret
      refine ⟨-1, rfl, .inl ⟨rfl, fun m hx => ?_⟩, FR.out⟩
      obtain ⟨j, hj, rfl⟩ := List.mem_iff_getElem.1 hx
      exact HP.out j _ (by rw [HN.out]; exact hj) (List.getElem?_eq_getElem hj)
set_option maxRecDepth 100000 in
theorem scontains_any (F : FuncId) (cap : Array Value) (p : Stp → Bool) (A : Option Addr) (c B n : Nat) (S : List Stm) (w : World) (hent : ∀ (args : Array Value) (w : World), (callFunc F args).run Tryz.prog w = .ok (.enter F args) w)
    (hF : ∀ (m : Stm) (w' : World), m ∈ S → Fr w.heap.size [] w w' → Calls Tryz.prog F (#[.agg (stV m.1 m.2.1 m.2.2)] ++ cap) w' fun e w'' => e = .returned (.bool (p m.1)) ∧ Fr w'.heap.size [] w' w'')
    (hm : n ≤ 1000000) (h : Sts w B A n S) (hB : B ≤ w.heap.size) :
    Calls Tryz.prog 47 #[.slice A n c, .func (.func F) #[] cap] w fun e w' => e = .returned (.bool ((fstS S).any p)) ∧ Fr w.heap.size [] w w' := by
  have H := Lib.hid (sindex_any F cap p A c B n S w hent hF hm h hB)
  obtain ⟨b, hb⟩ : ∃ b, b = (fstS S).any p := ⟨_, rfl⟩
  rw [← hb] at ⊢
  have HBB := Lib.hid hb
  clear hF h hb
  go_enter Tryz.func47, Tryz.ntmps47
  go_wp2_with fail
  refine H.out.mono ?_
  rintro e w1 ⟨i, rfl, hi, f1⟩
  have F1 := Lib.hid f1
  have HI := Lib.hid (show decide (0 ≤ i) = b by
    rw [HBB.out]
    rcases hi with ⟨rfl, hn⟩ | ⟨k, m, rfl, hm, hp, _⟩
    · symm
      rw [show decide ((0 : Int) ≤ -1) = false by simp, List.any_eq_false]
      intro s hs
      obtain ⟨m, hm, rfl⟩ := List.mem_map.1 hs
      simp [hn m hm]
    · symm
      rw [show decide ((0 : Int) ≤ (k : Int)) = true by simp, List.any_eq_true]
      exact ⟨m.1, List.mem_map.2 ⟨m, List.mem_of_getElem? hm, rfl⟩, hp⟩)
  clear hi f1 H
  go_wp2_with fail
  go_ret
  exact ⟨by rw [← HI.out]; rfl, F1.out⟩
def idleN (L : List Nd) (P : List Stp) : Bool := decide ((applyN L P).1 = 0) && !(P.any fun s => !decide (s.kind = 4))
set_option maxRecDepth 100000 in
theorem idlef_any (m : Stm) (w : World) : Calls Tryz.prog 48 #[.agg (stV m.1 m.2.1 m.2.2)] w fun e w' => e = .returned (.bool (!decide (m.1.kind = 4))) ∧ Fr w.heap.size [] w w' := by
  obtain ⟨⟨kd, y, rs⟩, sf, sp⟩ := m
  have BX := Lib.hid (Blk.new w 110 (stA kd y rs sf sp))
  have F1 := Lib.hid ((Fr.refl w.heap.size [] w).alloc (Nat.le_refl _) (.cells (stA kd y rs sf sp) 110))
  go_enter Tryz.func48, Tryz.ntmps48
  go_upto_region 1 with fail
  generalize w.alloc (.cells (stA kd y rs sf sp) 110) = wa at *
  have q0 := BX.out.cell 0
  simp at q0
  go_wp2_with fail
  go_ret
  refine ⟨?_, F1.out⟩
  show Ending.returned (.bool (kd != 4)) = _
  congr 2
set_option maxRecDepth 100000 in
set_option maxHeartbeats 1000000 in
theorem idle_any (A A2 : Option Addr) (c c2 B n n2 : Nat) (M : List Ndm) (S : List Stm) (w : World) (h : Nds w B A n M) (hB : B ≤ w.heap.size) (hs : Small M) (hS : Sts w B A2 n2 S) (hss : SmallS S) (hn2 : n2 ≤ 1000000) :
    Calls Tryz.prog 24 #[.slice A n c, .slice A2 n2 c2] w fun e w' => e = .returned (.bool (idleN (fstN M) (fstS S))) ∧ Fr w.heap.size [] w w' := by
  have HA := Lib.hid (papply_any A A2 c c2 B n n2 M S w h hB hs hS hss hn2)
  have hent := enters_of Tryz.func48 (by kernel_rfl) rfl
  have HC := Lib.hid (fun (wx : World) (hx : Fr w.heap.size [] w wx) => scontains_any 48 #[] (fun s => !decide (s.kind = 4)) A2 c2 B n2 S wx hent (fun m w' _ _ => idlef_any m w') hn2 (hS.frw hx hB (by simp)) (Nat.le_trans hB hx.size))
  obtain ⟨b, hb⟩ : ∃ b, b = (fstS S).any (fun s => !decide (s.kind = 4)) := ⟨_, rfl⟩
  obtain ⟨r, hr⟩ : ∃ r, r = applyN (fstN M) (fstS S) := ⟨_, rfl⟩
  rw [← hr] at HA
  rw [← hb] at HC
  have HI := Lib.hid (show idleN (fstN M) (fstS S) = (decide (r.1 = 0) && !b) by unfold idleN; rw [← hr, ← hb])
  clear h hs hS hss hb hr
  go_enter Tryz.func24, Tryz.ntmps24
  go_wp2_with fail
  refine HA.out.mono ?_
  rintro e w1 (⟨e1, rfl, f1⟩ | ⟨e1, A', c', n', M', rfl, _, _, _, f1⟩)
  · have F1 := Lib.hid f1
    have HV := Lib.hid (show idleN (fstN M) (fstS S) = false by rw [HI.out, decide_eq_false e1]; rfl)
    have hcb := kd_ne e1
    clear f1 e1 HA HC
    go_wp2_with fail
    go_ret
    exact ⟨by rw [HV.out]; rfl, F1.out⟩
  · have F1 := Lib.hid f1
    have HC1 := Lib.hid (HC.out w1 f1)
    have HV := Lib.hid (show idleN (fstN M) (fstS S) = !b by rw [HI.out, e1]; rfl)
    clear f1 e1 HA HC
    go_wp2_with fail
    refine HC1.out.mono ?_
    rintro e w2 ⟨rfl, f2⟩
    have F2 := Lib.hid (F1.out.trans (f2.mono (B' := w.heap.size) (L' := []) F1.out.size (by simp)))
    clear f2 HC1
    go_wp2_with fail
    go_ret
    exact ⟨by rw [HV.out]; rfl, F2.out⟩
end Go.Proofs.YthfibggbipkmfaaGreat
