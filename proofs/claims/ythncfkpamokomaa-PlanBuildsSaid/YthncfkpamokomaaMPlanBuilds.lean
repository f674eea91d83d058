/- forebaylaw10.PlanBuilds: for every input the call returns true, and each argument reads behind it as it read before. The walk lies in the text that this one imports; here it is lifted to the given row. -/
import Derived.Test.YthncfkpamokomaaMI
import Derived.Test.YthncfkpamokomaaMK
import Derived.Test.YthncfkpamokomaaMPlMv
import Derived.Test.YthncfkpamokomaaMArrEq
import Derived.Test.YthncfkpamokomaaMArgs
import Derived.Test.YthncfkpamokomaaMNdsA
import Derived.Deep.DeepCutAuto
import Derived.Deep.RegionHeld3
namespace Go.Proofs.Ythncfkpamokomaa
open Go.RowKit Go.Fb
set_option linter.unusedVariables false
theorem a8_ne (r : Nat → Int) (w : World) : (binOp .neq 31 (A8 r) (A8 r)).run Try.prog w = .ok (.bool false) w := by
  simp only [binOp]
  simp [Op.equal, Op.maxDepth, eq8_self]
theorem rap_uni {L : List Nd} {p : List Stp} {r : Int × Nat × List Nd} {w w' : World} {e : Ending} (hr : r = applyR L p) (h0 : r.1 = 0) (h : RApOut r w e w') :
    ∃ A c n M, e = .returned (.tuple #[.slice A n c, .int .i64 0, .int .i64 0]) ∧ Fr w.heap.size [] w w' ∧ Nds w' w'.heap.size A n M ∧ fstN M = r.2.2 := by
  rcases h with ⟨h1, rfl, hf⟩ | ⟨h1, A, c, n, M, rfl, hn, hc, hm, hg, hf⟩
  · exact absurd h0 h1
  · exact ⟨A, c, n, M, rfl, hf, hn, hm⟩
/-- The cells that matter of a node of a list. -/
theorem nds_at {w : World} {B n : Nat} {A : Option Addr} {M : List Ndm} {k : Nat} {x : Nd} (h : Nds w B A n M) (hx : (fstN M)[k]? = some x) : k < n ∧ ∃ b off, A = some ⟨b, off, none⟩ ∧ b < B ∧ w.cell? ⟨b, off + k * 13 + 1, none⟩ = some (.int .i64 x.kind) ∧ w.cell? ⟨b, off + k * 13 + 4, none⟩ = some (.int .i64 x.par) ∧ ∀ g, g < 8 → w.cell? ⟨b, off + k * 13 + 5 + g, none⟩ = some (.int .i64 (x.rt g)) := by
  have hlt : k < M.length := by
    rcases Nat.lt_or_ge k M.length with h | h
    · exact h
    · rw [List.getElem?_eq_none (by simpa [fstN] using h)] at hx; cases hx
  obtain ⟨m, hm⟩ : ∃ m, M[k]? = some m := ⟨_, List.getElem?_eq_getElem hlt⟩
  have hmx : m.1 = x := by
    unfold fstN at hx
    rw [List.getElem?_map, hm] at hx
    injection hx
  subst hmx
  obtain ⟨b, off, e, hb, hc⟩ := h.get hm
  refine ⟨by rw [h.num]; exact hlt, b, off, e, hb, hc 1 _ rfl, hc 4 _ rfl, fun g hg => ?_⟩
  rw [Nat.add_assoc]
  exact hc (5 + g) _ (by unfold ndL; rw [Array.getElem?_toList]; exact nd_rt hg)

set_option maxRecDepth 100000 in
set_option maxHeartbeats 32000000 in
theorem pbu_bad (A : Option Addr) (n c : Nat) (M : List Ndm) (hc : n ≤ c) (hm : c ≤ maxLen) (id par tz : Int) (Ag : Option Addr) (ng cg : Nat) (xs : List Int) (hcg : ng ≤ cg) (hmg : cg ≤ maxLen) (hng : ng = xs.length) (w : World) (h : Nds w w.heap.size A n M) (hcap : CapN M) (hg : Reads w w.heap.size 1 Ag ng (xs.map (Value.int .i64))) (hM : wantN (fstN M) id ≠ 0) :
    Calls Try.prog 3 #[.slice A n c, .agg #[.int .i64 id, .int .i64 par, .int .i64 tz], .slice Ag ng cg] w fun e w' => e = .returned (.bool true) ∧ Below w.heap.size w w' := by
  obtain ⟨L, hL⟩ : ∃ L, L = fstN M := ⟨_, rfl⟩
  obtain ⟨gv, hgv⟩ : ∃ v, v = greatP L [] := ⟨_, rfl⟩
  obtain ⟨ga, hga⟩ : ∃ g, g = w.heap.size := ⟨_, rfl⟩
  have fa := (Fr.refl w.heap.size [] w).alloc (Nat.le_refl _) (.cells #[.int .i64 id, .int .i64 par, .int .i64 tz] 23)
  have FA := Lib.hid fa
  have BA := Lib.hid (by rw [hga]; exact Blk.new w 23 #[.int .i64 id, .int .i64 par, .int .i64 tz] : Blk (w.alloc (.cells #[.int .i64 id, .int .i64 par, .int .i64 tz] 23)) ga 23 #[.int .i64 id, .int .i64 par, .int .i64 tz])
  obtain ⟨w0, hw0⟩ : ∃ w0, w0 = w.alloc (.cells #[.int .i64 id, .int .i64 par, .int .i64 tz] 23) := ⟨_, rfl⟩
  rw [← hw0] at FA BA
  have HA := Lib.hid (awake10_any w0)
  have HG := Lib.hid (fun (wx : World) (hx : Fr w.heap.size [] w wx) => (by rw [hgv, hL]; exact great10_any A none c 0 w.heap.size n 0 M [] wx (h.frw hx (Nat.le_refl _) (by simp)) hx.size (by omega) ⟨rfl, Reads.none_, by simp⟩ (by simp [maxLen]) : Calls Try.prog 6 #[.slice A n c, .slice none 0 0] wx fun e w' => e = .returned (.bool gv) ∧ Fr wx.heap.size [] wx w'))
  have HM := Lib.hid (by rw [hL]; exact hM : wantN L id ≠ 0)
  clear hM
  have HL := Lib.hid hL
  have HGV := Lib.hid hgv
  have HGA := Lib.hid hga
  have H := Lib.hid h
  have HR := Lib.hid hg
  have HCP := Lib.hid hcap
  have HNX := Lib.hid hng
  have HW0 := Lib.hid hw0
  clear hL hgv h hcap hg hng fa hga hw0
  unfold maxLen at hm hmg
  go_enter Try.func3, Try.ntmps3
  go_upto_region 1 with fail
  rw [← HW0.out, ← HGA.out]
  go_wp2_with fail
  refine HA.out.mono ?_
  rintro e w1 ⟨rfl, f1⟩
  have F1 := Lib.hid (FA.out.trans (f1.mono (B' := w.heap.size) (L' := []) FA.out.size (by simp)))
  have BA1 := Lib.hid (BA.out.fr f1 BA.out.lt (by simp))
  have HG1 := Lib.hid (HG.out w1 F1.out)
  clear f1 HA HG FA BA
  go_wp2_with fail
  refine HG1.out.mono ?_
  rintro e w2 ⟨rfl, f2⟩
  have F2 := Lib.hid (F1.out.trans (f2.mono (B' := w.heap.size) (L' := []) F1.out.size (by simp)))
  have BA2 := Lib.hid (BA1.out.fr f2 BA1.out.lt (by simp))
  clear f2 HG1 F1 BA1
  cases gv with
  | true =>
    go_wp2_with fail
    go_ret
    exact ⟨rfl, F2.out.below⟩
  | false => ?_
  by_cases hg60 : 60 < ng
  · have hg60i : (60 : Int) < (ng : Int) := by omega
    go_wp2_with fail
    go_ret
    exact ⟨rfl, F2.out.below⟩
  have hg60i : (ng : Int) ≤ 60 := by omega
  obtain ⟨hl20, hsm, hk, _, _⟩ := greatP_no (S := []) (by rw [← HL.out]; exact HGV.out.symm)
  have HSM := Lib.hid hsm
  have HK := Lib.hid hk
  have hn20 : n ≤ 20 := by have := H.out.num; omega
  obtain ⟨cv, hcv⟩ : ∃ v, v = checkN L := ⟨_, rfl⟩
  obtain ⟨iv, hiv⟩ : ∃ v, v = ixN L id := ⟨_, rfl⟩
  obtain ⟨av, hav⟩ : ∃ v, v = wantA L id par := ⟨_, rfl⟩
  obtain ⟨bv, hbv⟩ : ∃ v, v = wantB L id tz := ⟨_, rfl⟩
  have HCK := Lib.hid (fun (wx : World) (hx : Fr w.heap.size [] w wx) => (by rw [hcv, HL.out]; exact rcheck_any A c w.heap.size n M wx (H.out.frw hx (Nat.le_refl _) (by simp)) hx.size hsm HCP.out : Calls Try.prog 7 #[.slice A n c] wx fun e w' => e = .returned (.int .i64 cv) ∧ Fr wx.heap.size [] wx w'))
  have HFX := Lib.hid (fun (wx : World) (hx : Fr w.heap.size [] w wx) => (by rw [hiv, HL.out]; exact rfind_any id A c w.heap.size n M wx (H.out.frw hx (Nat.le_refl _) (by simp)) (by omega) : Calls Try.prog 8 #[.slice A n c, .int .i64 id] wx fun e w' => e = .returned (.int .i64 iv) ∧ wx = w'))
  obtain ⟨sa, hsa⟩ : ∃ s, s = saidS av (mvS id par (evenR par)) := ⟨_, rfl⟩
  obtain ⟨sb, hsb⟩ : ∃ s, s = (if bv = 0 then mvS id (getN L id).par (mergeR (getN L id).rt xs tz) else zS) := ⟨_, rfl⟩
  have HRS := Lib.hid (fun (wx : World) (hx : Fr w.heap.size [] w wx) => ((rescale_any id par A c w.heap.size n M wx (H.out.frw hx (Nat.le_refl _) (by simp)) hx.size hsm hk).mono (fun e w' hq => by
    unfold TriedOut at hq
    rw [← HL.out, rescale_says, ← hav, ← hsa] at hq
    exact hq) : Calls Try.prog 9 #[.slice A n c, .int .i64 id, .int .i64 par] wx fun e w' => e = .returned (.tuple #[.agg (stV sa (.slice none 0 0) (.slice none 0 0)), .int .i64 av]) ∧ Fr wx.heap.size [] wx w'))
  have HMG := Lib.hid (fun (wx : World) (hx : Fr w.heap.size [] w wx) => ((migrate_any id tz Ag ng cg xs A c w.heap.size n M wx (H.out.frw hx (Nat.le_refl _) (by simp)) hx.size hsm hk (HR.out.fr hx (Nat.le_refl _) (by simp)) (by omega)).mono (fun e w' hq => by
    unfold MigOut at hq
    have hms := migrate_says L id tz xs
    rw [← HL.out] at hq
    rw [hms, ← hbv] at hq
    have hsb2 : (if migB (stepN L (mvS id (getN L id).par (mergeR (getN L id).rt xs tz))).1 (checkN L) tz (getN L id).par then zS else saidS (stepN L (mvS id (getN L id).par (mergeR (getN L id).rt xs tz))).1 (mvS id (getN L id).par (mergeR (getN L id).rt xs tz))) = sb := by
      rw [hsb]
      rw [← hbv] at hms
      by_cases hb : migB (stepN L (mvS id (getN L id).par (mergeR (getN L id).rt xs tz))).1 (checkN L) tz (getN L id).par = true
      · rw [if_pos hb] at hms ⊢
        rw [if_neg (by rw [← hms]; decide)]
      · rw [if_neg hb] at hms ⊢
        rw [hms]
        rfl
    rw [hsb2] at hq
    exact hq) : Calls Try.prog 10 #[.slice A n c, .int .i64 id, .int .i64 tz, .slice Ag ng cg] wx fun e w' => e = .returned (.tuple #[.agg (stV sb (.slice none 0 0) (.slice none 0 0)), .int .i64 bv]) ∧ Fr wx.heap.size [] wx w'))
  have HCV := Lib.hid hcv
  have HIV := Lib.hid hiv
  have HAV := Lib.hid hav
  have HBV := Lib.hid hbv
  have HSA := Lib.hid hsa
  have HSB := Lib.hid hsb
  clear hcv hiv hav hbv hsa hsb hsm hk hl20 hg60
  have a0 := BA2.out.cell 0
  have a1 := BA2.out.cell 1
  have a2 := BA2.out.cell 2
  simp at a0 a1 a2
  go_wp2_with fail
  go_quiet (fail)
  have F2q := Lib.hid (F2.out.drewN nq)
  clear a0 a1 a2 BA2
  have HC2 := Lib.hid (HCK.out _ F2q.out)
  clear HCK
  go_wp2_with fail
  refine HC2.out.mono ?_
  rintro e w3 ⟨rfl, f3⟩
  have F3 := Lib.hid (F2q.out.trans (f3.mono (B' := w.heap.size) (L' := []) F2q.out.size (by simp)))
  have HF3 := Lib.hid (HFX.out w3 F3.out)
  have HR3 := Lib.hid (HRS.out w3 F3.out)
  clear f3 HC2 F2 F2q HRS
  by_cases hcz : cv = 0
  case' neg =>
    have hcb := kd_ne hcz
    have hw10 : wantN L id = 10 := by unfold wantN; rw [if_pos (by rw [← HCV.out]; exact hcz)]
    have hA : av = 10 := by rw [HAV.out]; unfold wantA; rw [hw10]; simp
    have hB : bv = 10 := by rw [HBV.out]; unfold wantB; rw [hw10]; simp
    clear hcz hw10
    subst hA hB
    go_wp2_with fail
    refine HF3.out.mono ?_
    rintro e w' ⟨rfl, rfl⟩
    clear HF3
    go_wp2_with fail
    refine HR3.out.mono ?_
    rintro e w4 ⟨rfl, f4⟩
    have F4 := Lib.hid (F3.out.trans (f4.mono (B' := w.heap.size) (L' := []) F3.out.size (by simp)))
    clear f4 HR3
    have F4a := Lib.hid (F4.out.alloc F4.out.size (.cells #[.int .i64 sa.kind, .int .i64 sa.nd.id, .int .i64 sa.nd.kind, .slice none 0 0, .slice none 0 0, .int .i64 sa.nd.par, .int .i64 (sa.nd.rt 0), .int .i64 (sa.nd.rt 1), .int .i64 (sa.nd.rt 2), .int .i64 (sa.nd.rt 3), .int .i64 (sa.nd.rt 4), .int .i64 (sa.nd.rt 5), .int .i64 (sa.nd.rt 6), .int .i64 (sa.nd.rt 7), .bool sa.rs] 35))
    have HM4 := Lib.hid (HMG.out _ F4a.out)
    go_wp2_with fail
    refine HM4.out.mono ?_
    rintro e w5 ⟨rfl, f5⟩
    have F5 := Lib.hid (F4a.out.trans (f5.mono (B' := w.heap.size) (L' := []) F4a.out.size (by simp)))
    clear f5 HM4
    go_wp2_with fail
    go_ret
    exact ⟨rfl, (F5.out.alloc F5.out.size _).below⟩
  subst hcz
  have hright : RightG L := checkN_zero.1 HCV.out.symm
  have HRT := Lib.hid hright
  have HCZ := Lib.hid HCV.out.symm
  rcases ixN_cases L id with ⟨hx1, hx2⟩ | ⟨k, x, hx1, hx2, hx3⟩
  case' inl =>
    rw [← HIV.out] at hx1
    subst hx1
    have hw12 := want_none HCZ.out hx2
    have hA : av = 12 := by rw [HAV.out]; unfold wantA; rw [hw12]; simp
    have hB : bv = 12 := by rw [HBV.out]; unfold wantB; rw [hw12]; simp
    clear hw12 hx2 hright
    subst hA hB
    go_wp2_with fail
    refine HF3.out.mono ?_
    rintro e w' ⟨rfl, rfl⟩
    clear HF3
    go_wp2_with fail
    refine HR3.out.mono ?_
    rintro e w4 ⟨rfl, f4⟩
    have F4 := Lib.hid (F3.out.trans (f4.mono (B' := w.heap.size) (L' := []) F3.out.size (by simp)))
    clear f4 HR3
    have F4a := Lib.hid (F4.out.alloc F4.out.size (.cells #[.int .i64 sa.kind, .int .i64 sa.nd.id, .int .i64 sa.nd.kind, .slice none 0 0, .slice none 0 0, .int .i64 sa.nd.par, .int .i64 (sa.nd.rt 0), .int .i64 (sa.nd.rt 1), .int .i64 (sa.nd.rt 2), .int .i64 (sa.nd.rt 3), .int .i64 (sa.nd.rt 4), .int .i64 (sa.nd.rt 5), .int .i64 (sa.nd.rt 6), .int .i64 (sa.nd.rt 7), .bool sa.rs] 35))
    have HM4 := Lib.hid (HMG.out _ F4a.out)
    go_wp2_with fail
    refine HM4.out.mono ?_
    rintro e w5 ⟨rfl, f5⟩
    have F5 := Lib.hid (F4a.out.trans (f5.mono (B' := w.heap.size) (L' := []) F4a.out.size (by simp)))
    clear f5 HM4
    go_wp2_with fail
    go_ret
    exact ⟨rfl, (F5.out.alloc F5.out.size _).below⟩
  rw [← HIV.out] at hx1
  subst hx1
  obtain ⟨hkn, b, off, hA, hb, p1, p4, p5⟩ := nds_at (H.out.frw F3.out (Nat.le_refl _) (by simp)) (by rw [← HL.out]; exact hx2)
  have hki : (k : Int) < (n : Int) := by omega
  have hk0 : (0 : Int) ≤ (k : Int) := by omega
  subst hA
  have HX2 := Lib.hid hx2
  have HX3 := Lib.hid hx3
  clear hx2 hx3 p5
  by_cases hkd : x.kind = 0
  case' pos =>
    have hw11 := want_src HCZ.out HX3.out hkd
    have hA : av = 11 := by rw [HAV.out]; unfold wantA; rw [hw11]; simp
    have hB : bv = 11 := by rw [HBV.out]; unfold wantB; rw [hw11]; simp
    have hkb : (x.kind == 0) = true := by simp [hkd]
    clear hw11 hright hkd
    subst hA hB
    go_wp2_with fail
    refine HF3.out.mono ?_
    rintro e w' ⟨rfl, rfl⟩
    clear HF3
    go_wp2_with fail
    refine HR3.out.mono ?_
    rintro e w4 ⟨rfl, f4⟩
    have F4 := Lib.hid (F3.out.trans (f4.mono (B' := w.heap.size) (L' := []) F3.out.size (by simp)))
    clear f4 HR3
    have F4a := Lib.hid (F4.out.alloc F4.out.size (.cells #[.int .i64 sa.kind, .int .i64 sa.nd.id, .int .i64 sa.nd.kind, .slice none 0 0, .slice none 0 0, .int .i64 sa.nd.par, .int .i64 (sa.nd.rt 0), .int .i64 (sa.nd.rt 1), .int .i64 (sa.nd.rt 2), .int .i64 (sa.nd.rt 3), .int .i64 (sa.nd.rt 4), .int .i64 (sa.nd.rt 5), .int .i64 (sa.nd.rt 6), .int .i64 (sa.nd.rt 7), .bool sa.rs] 35))
    have HM4 := Lib.hid (HMG.out _ F4a.out)
    go_wp2_with fail
    refine HM4.out.mono ?_
    rintro e w5 ⟨rfl, f5⟩
    have F5 := Lib.hid (F4a.out.trans (f5.mono (B' := w.heap.size) (L' := []) F4a.out.size (by simp)))
    clear f5 HM4
    go_wp2_with fail
    go_ret
    exact ⟨rfl, (F5.out.alloc F5.out.size _).below⟩
  exact absurd (want_ok HCZ.out HX3.out hkd) HM.out

set_option maxRecDepth 100000 in
set_option maxHeartbeats 32000000 in
theorem pbu_ff (A : Option Addr) (n c : Nat) (M : List Ndm) (hc : n ≤ c) (hm : c ≤ maxLen) (id par tz : Int) (Ag : Option Addr) (ng cg : Nat) (xs : List Int) (hcg : ng ≤ cg) (hmg : cg ≤ maxLen) (hng : ng = xs.length) (w : World) (h : Nds w w.heap.size A n M) (hcap : CapN M) (hg : Reads w w.heap.size 1 Ag ng (xs.map (Value.int .i64))) (hM : wantN (fstN M) id = 0) (hMA : decide (par < 1 ∨ 3 < par) = false) (hMB : decide (tz < 0 ∨ (getN (fstN M) id).par ≤ tz) = false) :
    Calls Try.prog 3 #[.slice A n c, .agg #[.int .i64 id, .int .i64 par, .int .i64 tz], .slice Ag ng cg] w fun e w' => e = .returned (.bool true) ∧ Below w.heap.size w w' := by
  obtain ⟨L, hL⟩ : ∃ L, L = fstN M := ⟨_, rfl⟩
  obtain ⟨gv, hgv⟩ : ∃ v, v = greatP L [] := ⟨_, rfl⟩
  obtain ⟨ga, hga⟩ : ∃ g, g = w.heap.size := ⟨_, rfl⟩
  have fa := (Fr.refl w.heap.size [] w).alloc (Nat.le_refl _) (.cells #[.int .i64 id, .int .i64 par, .int .i64 tz] 23)
  have FA := Lib.hid fa
  have BA := Lib.hid (by rw [hga]; exact Blk.new w 23 #[.int .i64 id, .int .i64 par, .int .i64 tz] : Blk (w.alloc (.cells #[.int .i64 id, .int .i64 par, .int .i64 tz] 23)) ga 23 #[.int .i64 id, .int .i64 par, .int .i64 tz])
  obtain ⟨w0, hw0⟩ : ∃ w0, w0 = w.alloc (.cells #[.int .i64 id, .int .i64 par, .int .i64 tz] 23) := ⟨_, rfl⟩
  rw [← hw0] at FA BA
  have HA := Lib.hid (awake10_any w0)
  have HG := Lib.hid (fun (wx : World) (hx : Fr w.heap.size [] w wx) => (by rw [hgv, hL]; exact great10_any A none c 0 w.heap.size n 0 M [] wx (h.frw hx (Nat.le_refl _) (by simp)) hx.size (by omega) ⟨rfl, Reads.none_, by simp⟩ (by simp [maxLen]) : Calls Try.prog 6 #[.slice A n c, .slice none 0 0] wx fun e w' => e = .returned (.bool gv) ∧ Fr wx.heap.size [] wx w'))
  have HM := Lib.hid (by rw [hL]; exact hM : wantN L id = 0)
  have HMB := Lib.hid (by rw [hL]; exact hMB : decide (tz < 0 ∨ (getN L id).par ≤ tz) = false)
  have HPA := Lib.hid hMA.symm
  clear hM hMA hMB
  have HL := Lib.hid hL
  have HGV := Lib.hid hgv
  have HGA := Lib.hid hga
  have H := Lib.hid h
  have HR := Lib.hid hg
  have HCP := Lib.hid hcap
  have HNX := Lib.hid hng
  have HW0 := Lib.hid hw0
  clear hL hgv h hcap hg hng fa hga hw0
  unfold maxLen at hm hmg
  go_enter Try.func3, Try.ntmps3
  go_upto_region 1 with fail
  rw [← HW0.out, ← HGA.out]
  go_wp2_with fail
  refine HA.out.mono ?_
  rintro e w1 ⟨rfl, f1⟩
  have F1 := Lib.hid (FA.out.trans (f1.mono (B' := w.heap.size) (L' := []) FA.out.size (by simp)))
  have BA1 := Lib.hid (BA.out.fr f1 BA.out.lt (by simp))
  have HG1 := Lib.hid (HG.out w1 F1.out)
  clear f1 HA HG FA BA
  go_wp2_with fail
  refine HG1.out.mono ?_
  rintro e w2 ⟨rfl, f2⟩
  have F2 := Lib.hid (F1.out.trans (f2.mono (B' := w.heap.size) (L' := []) F1.out.size (by simp)))
  have BA2 := Lib.hid (BA1.out.fr f2 BA1.out.lt (by simp))
  clear f2 HG1 F1 BA1
  cases gv with
  | true =>
    go_wp2_with fail
    go_ret
    exact ⟨rfl, F2.out.below⟩
  | false => ?_
  by_cases hg60 : 60 < ng
  · have hg60i : (60 : Int) < (ng : Int) := by omega
    go_wp2_with fail
    go_ret
    exact ⟨rfl, F2.out.below⟩
  have hg60i : (ng : Int) ≤ 60 := by omega
  obtain ⟨hl20, hsm, hk, _, _⟩ := greatP_no (S := []) (by rw [← HL.out]; exact HGV.out.symm)
  have HSM := Lib.hid hsm
  have HK := Lib.hid hk
  have hn20 : n ≤ 20 := by have := H.out.num; omega
  obtain ⟨cv, hcv⟩ : ∃ v, v = checkN L := ⟨_, rfl⟩
  obtain ⟨iv, hiv⟩ : ∃ v, v = ixN L id := ⟨_, rfl⟩
  obtain ⟨av, hav⟩ : ∃ v, v = wantA L id par := ⟨_, rfl⟩
  obtain ⟨bv, hbv⟩ : ∃ v, v = wantB L id tz := ⟨_, rfl⟩
  have HCK := Lib.hid (fun (wx : World) (hx : Fr w.heap.size [] w wx) => (by rw [hcv, HL.out]; exact rcheck_any A c w.heap.size n M wx (H.out.frw hx (Nat.le_refl _) (by simp)) hx.size hsm HCP.out : Calls Try.prog 7 #[.slice A n c] wx fun e w' => e = .returned (.int .i64 cv) ∧ Fr wx.heap.size [] wx w'))
  have HFX := Lib.hid (fun (wx : World) (hx : Fr w.heap.size [] w wx) => (by rw [hiv, HL.out]; exact rfind_any id A c w.heap.size n M wx (H.out.frw hx (Nat.le_refl _) (by simp)) (by omega) : Calls Try.prog 8 #[.slice A n c, .int .i64 id] wx fun e w' => e = .returned (.int .i64 iv) ∧ wx = w'))
  obtain ⟨sa, hsa⟩ : ∃ s, s = saidS av (mvS id par (evenR par)) := ⟨_, rfl⟩
  obtain ⟨sb, hsb⟩ : ∃ s, s = (if bv = 0 then mvS id (getN L id).par (mergeR (getN L id).rt xs tz) else zS) := ⟨_, rfl⟩
  have HRS := Lib.hid (fun (wx : World) (hx : Fr w.heap.size [] w wx) => ((rescale_any id par A c w.heap.size n M wx (H.out.frw hx (Nat.le_refl _) (by simp)) hx.size hsm hk).mono (fun e w' hq => by
    unfold TriedOut at hq
    rw [← HL.out, rescale_says, ← hav, ← hsa] at hq
    exact hq) : Calls Try.prog 9 #[.slice A n c, .int .i64 id, .int .i64 par] wx fun e w' => e = .returned (.tuple #[.agg (stV sa (.slice none 0 0) (.slice none 0 0)), .int .i64 av]) ∧ Fr wx.heap.size [] wx w'))
  have HMG := Lib.hid (fun (wx : World) (hx : Fr w.heap.size [] w wx) => ((migrate_any id tz Ag ng cg xs A c w.heap.size n M wx (H.out.frw hx (Nat.le_refl _) (by simp)) hx.size hsm hk (HR.out.fr hx (Nat.le_refl _) (by simp)) (by omega)).mono (fun e w' hq => by
    unfold MigOut at hq
    have hms := migrate_says L id tz xs
    rw [← HL.out] at hq
    rw [hms, ← hbv] at hq
    have hsb2 : (if migB (stepN L (mvS id (getN L id).par (mergeR (getN L id).rt xs tz))).1 (checkN L) tz (getN L id).par then zS else saidS (stepN L (mvS id (getN L id).par (mergeR (getN L id).rt xs tz))).1 (mvS id (getN L id).par (mergeR (getN L id).rt xs tz))) = sb := by
      rw [hsb]
      rw [← hbv] at hms
      by_cases hb : migB (stepN L (mvS id (getN L id).par (mergeR (getN L id).rt xs tz))).1 (checkN L) tz (getN L id).par = true
      · rw [if_pos hb] at hms ⊢
        rw [if_neg (by rw [← hms]; decide)]
      · rw [if_neg hb] at hms ⊢
        rw [hms]
        rfl
    rw [hsb2] at hq
    exact hq) : Calls Try.prog 10 #[.slice A n c, .int .i64 id, .int .i64 tz, .slice Ag ng cg] wx fun e w' => e = .returned (.tuple #[.agg (stV sb (.slice none 0 0) (.slice none 0 0)), .int .i64 bv]) ∧ Fr wx.heap.size [] wx w'))
  have HCV := Lib.hid hcv
  have HIV := Lib.hid hiv
  have HAV := Lib.hid hav
  have HBV := Lib.hid hbv
  have HSA := Lib.hid hsa
  have HSB := Lib.hid hsb
  clear hcv hiv hav hbv hsa hsb hsm hk hl20 hg60
  have a0 := BA2.out.cell 0
  have a1 := BA2.out.cell 1
  have a2 := BA2.out.cell 2
  simp at a0 a1 a2
  go_wp2_with fail
  go_quiet (fail)
  have F2q := Lib.hid (F2.out.drewN nq)
  clear a0 a1 a2 BA2
  have HC2 := Lib.hid (HCK.out _ F2q.out)
  clear HCK
  go_wp2_with fail
  refine HC2.out.mono ?_
  rintro e w3 ⟨rfl, f3⟩
  have F3 := Lib.hid (F2q.out.trans (f3.mono (B' := w.heap.size) (L' := []) F2q.out.size (by simp)))
  have HF3 := Lib.hid (HFX.out w3 F3.out)
  have HR3 := Lib.hid (HRS.out w3 F3.out)
  clear f3 HC2 F2 F2q HRS
  by_cases hcz : cv = 0
  case' neg => exact absurd HM.out (by unfold wantN; rw [if_pos (by rw [← HCV.out]; exact hcz)]; decide)
  subst hcz
  have hright : RightG L := checkN_zero.1 HCV.out.symm
  have HRT := Lib.hid hright
  have HCZ := Lib.hid HCV.out.symm
  rcases ixN_cases L id with ⟨hx1, hx2⟩ | ⟨k, x, hx1, hx2, hx3⟩
  case' inl => exact absurd ((want_none HCZ.out hx2).symm.trans HM.out) (by decide)
  rw [← HIV.out] at hx1
  subst hx1
  obtain ⟨hkn, b, off, hA, hb, p1, p4, p5⟩ := nds_at (H.out.frw F3.out (Nat.le_refl _) (by simp)) (by rw [← HL.out]; exact hx2)
  have hki : (k : Int) < (n : Int) := by omega
  have hk0 : (0 : Int) ≤ (k : Int) := by omega
  subst hA
  have HX2 := Lib.hid hx2
  have HX3 := Lib.hid hx3
  clear hx2 hx3 p5
  by_cases hkd : x.kind = 0
  case' pos => exact absurd ((want_src HCZ.out HX3.out hkd).symm.trans HM.out) (by decide)
  have hkb : (x.kind == 0) = false := by simp [hkd]
  have hw0 := want_ok HCZ.out HX3.out hkd
  have HGX := Lib.hid (getN_some HX3.out : getN L id = x)
  have HW0 := Lib.hid hw0
  have HA0 := Lib.hid (show av = if par < 1 ∨ 3 < par then 10 else 0 by rw [HAV.out]; unfold wantA; rw [hw0]; simp)
  have HB0 := Lib.hid (show bv = if tz < 0 ∨ x.par ≤ tz then 11 else 0 by rw [HBV.out]; unfold wantB; rw [hw0, HGX.out]; simp)
  clear hw0 hkd hright
  have HRP := Lib.hid (fun (wx : World) (hx : Fr w.heap.size [] w wx) (s : Stp) (h1 : s.nd.fr = []) (h2 : s.nd.pg = []) => (by
    have fb := (Fr.refl wx.heap.size [] wx).alloc (Nat.le_refl _) (.cells #[.int .i64 s.kind, .int .i64 s.nd.id, .int .i64 s.nd.kind, .slice none 0 0, .slice none 0 0, .int .i64 s.nd.par, .int .i64 (s.nd.rt 0), .int .i64 (s.nd.rt 1), .int .i64 (s.nd.rt 2), .int .i64 (s.nd.rt 3), .int .i64 (s.nd.rt 4), .int .i64 (s.nd.rt 5), .int .i64 (s.nd.rt 6), .int .i64 (s.nd.rt 7), .bool s.rs] 35)
    have fw := hx.trans (fb.mono (B' := w.heap.size) (L' := []) hx.size (by simp))
    have hst : Sts (wx.alloc (.cells #[.int .i64 s.kind, .int .i64 s.nd.id, .int .i64 s.nd.kind, .slice none 0 0, .slice none 0 0, .int .i64 s.nd.par, .int .i64 (s.nd.rt 0), .int .i64 (s.nd.rt 1), .int .i64 (s.nd.rt 2), .int .i64 (s.nd.rt 3), .int .i64 (s.nd.rt 4), .int .i64 (s.nd.rt 5), .int .i64 (s.nd.rt 6), .int .i64 (s.nd.rt 7), .bool s.rs] 35)) (wx.heap.size + 1) (some ⟨wx.heap.size, 0, none⟩) 1 [(s, .slice none 0 0, .slice none 0 0)] := ⟨rfl, by
      have := Reads.of_blk (size := 15) (m := 1) (Blk.new wx 35 #[.int .i64 s.kind, .int .i64 s.nd.id, .int .i64 s.nd.kind, .slice none 0 0, .slice none 0 0, .int .i64 s.nd.par, .int .i64 (s.nd.rt 0), .int .i64 (s.nd.rt 1), .int .i64 (s.nd.rt 2), .int .i64 (s.nd.rt 3), .int .i64 (s.nd.rt 4), .int .i64 (s.nd.rt 5), .int .i64 (s.nd.rt 6), .int .i64 (s.nd.rt 7), .bool s.rs]) rfl
      exact this, fun m hm => by
      rw [List.mem_singleton.1 hm]
      exact nd_bare _ _ _ h1 h2⟩
    have := rapply_any (some ⟨b, off, none⟩) (some ⟨wx.heap.size, 0, none⟩) c 1 (wx.heap.size + 1) n 1 M [(s, .slice none 0 0, .slice none 0 0)] (wx.alloc (.cells #[.int .i64 s.kind, .int .i64 s.nd.id, .int .i64 s.nd.kind, .slice none 0 0, .slice none 0 0, .int .i64 s.nd.par, .int .i64 (s.nd.rt 0), .int .i64 (s.nd.rt 1), .int .i64 (s.nd.rt 2), .int .i64 (s.nd.rt 3), .int .i64 (s.nd.rt 4), .int .i64 (s.nd.rt 5), .int .i64 (s.nd.rt 6), .int .i64 (s.nd.rt 7), .bool s.rs] 35)) ((H.out.frw fw (Nat.le_refl _) (by simp)).more (by have := hx.size; omega)) (by simp) HSM.out hst (fun m hm => by rw [List.mem_singleton.1 hm]; simp only; rw [h1, h2]; simp) (by omega) HCP.out hc (fun m hm A n c he => by rw [List.mem_singleton.1 hm] at he; injection he with _ h5 h6; omega)
    rw [← HL.out] at this
    exact this : Calls Try.prog 11 #[.slice (some ⟨b, off, none⟩) n c, .slice (some ⟨wx.heap.size, 0, none⟩) 1 1] (wx.alloc (.cells #[.int .i64 s.kind, .int .i64 s.nd.id, .int .i64 s.nd.kind, .slice none 0 0, .slice none 0 0, .int .i64 s.nd.par, .int .i64 (s.nd.rt 0), .int .i64 (s.nd.rt 1), .int .i64 (s.nd.rt 2), .int .i64 (s.nd.rt 3), .int .i64 (s.nd.rt 4), .int .i64 (s.nd.rt 5), .int .i64 (s.nd.rt 6), .int .i64 (s.nd.rt 7), .bool s.rs] 35)) (RApOut (applyR L [s]) (wx.alloc (.cells #[.int .i64 s.kind, .int .i64 s.nd.id, .int .i64 s.nd.kind, .slice none 0 0, .slice none 0 0, .int .i64 s.nd.par, .int .i64 (s.nd.rt 0), .int .i64 (s.nd.rt 1), .int .i64 (s.nd.rt 2), .int .i64 (s.nd.rt 3), .int .i64 (s.nd.rt 4), .int .i64 (s.nd.rt 5), .int .i64 (s.nd.rt 6), .int .i64 (s.nd.rt 7), .bool s.rs] 35)))))
  have HPB := Lib.hid (by rw [← HMB.out, HGX.out] : false = decide (tz < 0 ∨ x.par ≤ tz))
  have HP4 := Lib.hid p4
  clear p4 HMB
  go_wp2_with fail
  refine HF3.out.mono ?_
  rintro e w' ⟨rfl, rfl⟩
  clear HF3
  go_upto_region 16 with fail
  go_cut [74] (fun s wx => s = .bool false ∧ wx = w3)
  case first =>
    have c0 := of_decide_eq_false HPA.out.symm
    have c1 : 1 ≤ par := by omega
    have c2 : par ≤ 3 := by omega
    clear c0
    go_wp2_with fail
    go_meet
    first | exact ⟨rfl, rfl⟩ | exact ⟨congrArg Value.bool (by simp; omega), rfl⟩
  case' rest =>
    obtain ⟨rfl, hw3⟩ := hcut
    subst hw3
    have p4 := HP4.out
  go_upto_region 18 with fail
  go_cut [89] (fun s wx => s = .bool false ∧ wx = wc)
  case first =>
    have c0 := of_decide_eq_false HPB.out.symm
    have c1 : 0 ≤ tz := by omega
    have c2 : tz < x.par := by omega
    clear c0
    go_wp2_with fail
    go_meet
    first | exact ⟨rfl, rfl⟩ | exact ⟨congrArg Value.bool (by simp; omega), rfl⟩
  case' rest =>
    obtain ⟨rfl, hw4⟩ := hcut
    subst hw4

  have hA : av = 0 := by rw [HA0.out, if_neg (of_decide_eq_false HPA.out.symm)]
  have hB : bv = 0 := by rw [HB0.out, if_neg (of_decide_eq_false HPB.out.symm)]
  subst hA hB
  have HSE := Lib.hid (show sa = mvS id par (evenR par) from HSA.out)
  have HSF := Lib.hid (show sb = mvS id x.par (mergeR x.rt xs tz) by rw [HSB.out, if_pos rfl, HGX.out])
  clear HSA HSB HA0 HB0
  go_wp2_with fail
  refine HR3.out.mono ?_
  rintro e w4 ⟨rfl, f4⟩
  have F4 := Lib.hid (F3.out.trans (f4.mono (B' := w.heap.size) (L' := []) F3.out.size (by simp)))
  clear f4 HR3
  have F4a := Lib.hid (F4.out.alloc F4.out.size (.cells #[.int .i64 sa.kind, .int .i64 sa.nd.id, .int .i64 sa.nd.kind, .slice none 0 0, .slice none 0 0, .int .i64 sa.nd.par, .int .i64 (sa.nd.rt 0), .int .i64 (sa.nd.rt 1), .int .i64 (sa.nd.rt 2), .int .i64 (sa.nd.rt 3), .int .i64 (sa.nd.rt 4), .int .i64 (sa.nd.rt 5), .int .i64 (sa.nd.rt 6), .int .i64 (sa.nd.rt 7), .bool sa.rs] 35))
  have BA4 := Lib.hid (Blk.new w4 35 #[.int .i64 sa.kind, .int .i64 sa.nd.id, .int .i64 sa.nd.kind, .slice none 0 0, .slice none 0 0, .int .i64 sa.nd.par, .int .i64 (sa.nd.rt 0), .int .i64 (sa.nd.rt 1), .int .i64 (sa.nd.rt 2), .int .i64 (sa.nd.rt 3), .int .i64 (sa.nd.rt 4), .int .i64 (sa.nd.rt 5), .int .i64 (sa.nd.rt 6), .int .i64 (sa.nd.rt 7), .bool sa.rs])
  have HM4 := Lib.hid (HMG.out _ F4a.out)
  go_wp2_with fail
  refine HM4.out.mono ?_
  rintro e w5 ⟨rfl, f5⟩
  have F5 := Lib.hid (F4a.out.trans (f5.mono (B' := w.heap.size) (L' := []) F4a.out.size (by simp)))
  have BA5 := Lib.hid ((BA4.out.fr f5 BA4.out.lt (by simp)).alloc (.cells #[.int .i64 sb.kind, .int .i64 sb.nd.id, .int .i64 sb.nd.kind, .slice none 0 0, .slice none 0 0, .int .i64 sb.nd.par, .int .i64 (sb.nd.rt 0), .int .i64 (sb.nd.rt 1), .int .i64 (sb.nd.rt 2), .int .i64 (sb.nd.rt 3), .int .i64 (sb.nd.rt 4), .int .i64 (sb.nd.rt 5), .int .i64 (sb.nd.rt 6), .int .i64 (sb.nd.rt 7), .bool sb.rs] 35))
  have BB5 := Lib.hid (Blk.new w5 35 #[.int .i64 sb.kind, .int .i64 sb.nd.id, .int .i64 sb.nd.kind, .slice none 0 0, .slice none 0 0, .int .i64 sb.nd.par, .int .i64 (sb.nd.rt 0), .int .i64 (sb.nd.rt 1), .int .i64 (sb.nd.rt 2), .int .i64 (sb.nd.rt 3), .int .i64 (sb.nd.rt 4), .int .i64 (sb.nd.rt 5), .int .i64 (sb.nd.rt 6), .int .i64 (sb.nd.rt 7), .bool sb.rs])
  have F6 := Lib.hid (F5.out.alloc F5.out.size (.cells #[.int .i64 sb.kind, .int .i64 sb.nd.id, .int .i64 sb.nd.kind, .slice none 0 0, .slice none 0 0, .int .i64 sb.nd.par, .int .i64 (sb.nd.rt 0), .int .i64 (sb.nd.rt 1), .int .i64 (sb.nd.rt 2), .int .i64 (sb.nd.rt 3), .int .i64 (sb.nd.rt 4), .int .i64 (sb.nd.rt 5), .int .i64 (sb.nd.rt 6), .int .i64 (sb.nd.rt 7), .bool sb.rs] 35))
  clear f5 HM4 HMG BA4 F4a
  go_upto_region 22 with fail
  generalize w5.alloc _ = w6 at *
  generalize w4.heap.size = gA at *
  generalize w5.heap.size = gB at *
  have k0 := BA5.out.cell 0
  have k1 := BA5.out.cell 1
  have k2 := BA5.out.cell 2
  have k3 := BA5.out.cell 3
  have k4 := BA5.out.cell 4
  have k5 := BA5.out.cell 5
  have k6 := BA5.out.cell 6
  have k7 := BA5.out.cell 7
  have k8 := BA5.out.cell 8
  have k9 := BA5.out.cell 9
  have k10 := BA5.out.cell 10
  have k11 := BA5.out.cell 11
  have k12 := BA5.out.cell 12
  have k13 := BA5.out.cell 13
  have k14 := BA5.out.cell 14
  simp at k0 k1 k2 k3 k4 k5 k6 k7 k8 k9 k10 k11 k12 k13 k14
  have hxk : x.kind ≠ 0 := by simpa using hkb
  have hpar := of_decide_eq_false HPA.out.symm
  have hap := applyR_mv HRT.out HX3.out hxk (even_right (p := par) (by omega))
  have hix : ixN (updN L id (rtN par (evenR par))) id = (k : Int) := by rw [ix_upd (f := rtN par (evenR par)) (fun _ => rfl)]; exact HIV.out.symm
  have hat : (updN L id (rtN par (evenR par)))[k]? = some (rtN par (evenR par) x) := upd_at HX2.out (findN_id HX3.out)
  have hAR : applyR L [sa] = (0, 0, updN L id (rtN par (evenR par))) := by rw [HSE.out]; exact hap
  have HAP := Lib.hid (HRP.out w6 F6.out sa (by rw [HSE.out]; rfl) (by rw [HSE.out]; rfl))
  rw [hAR] at HAP
  have HIX := Lib.hid hix
  have HAT := Lib.hid hat
  clear hap hix hat hAR hxk hpar
  go_wp2_with fail
  refine HAP.out.mono ?_
  intro e w7 hq
  obtain ⟨A7, c7, n7, M7, rfl, f7, hn7, hf7⟩ := rap_uni (L := L) (p := [mvS id par (evenR par)]) (by rw [← HSE.out]; exact (by rw [HSE.out]; exact (applyR_mv HRT.out HX3.out (by simpa using hkb) (even_right (p := par) (by have := of_decide_eq_false HPA.out.symm; omega))).symm)) rfl hq
  have F7 := Lib.hid ((F6.out.alloc F6.out.size _).trans (f7.mono (B' := w.heap.size) (L' := []) (F6.out.alloc F6.out.size _).size (by simp)))
  have BB7 := Lib.hid ((BB5.out.alloc _).fr f7 (BB5.out.alloc _).lt (by simp))
  have hl7 : M7.length ≤ 8 := by
    have h1 := congrArg List.length hf7
    simp only [fstN, updN, List.length_map] at h1
    have := HRT.out.len
    omega
  have hn78 : n7 ≤ 8 := by rw [hn7.num]; exact hl7
  have HF7 := Lib.hid (by have := rfind_any id A7 c7 w7.heap.size n7 M7 w7 hn7 (by omega); rw [hf7, HIX.out] at this; exact this : Calls Try.prog 8 #[.slice A7 n7 c7, .int .i64 id] w7 fun e w' => e = .returned (.int .i64 (k : Int)) ∧ w7 = w')
  obtain ⟨hkn7, b7, off7, hA7, hb7, r1, r4, r5⟩ := nds_at hn7 (by rw [hf7]; exact HAT.out)
  subst hA7
  have hki7 : (k : Int) < (n7 : Int) := by omega
  obtain ⟨R, hR⟩ : ∃ R, R = evenR par := ⟨_, rfl⟩
  have HEV := Lib.hid (fun (wx : World) => (by rw [hR]; exact even_any par wx : Calls Try.prog 12 #[.int .i64 par] wx fun e w' => e = .returned (A8 R) ∧ Fr wx.heap.size [] wx w'))
  simp only [rtN] at r4 r5
  rw [← hR] at r5
  have R5 := Lib.hid r5
  have R4 := Lib.hid r4
  have HBB7 : b7 < w7.heap.size := hb7
  clear f7 hq HAP hn7 hf7 r1 r4 r5 hR F6 BA5 BB5 k0 k1 k2 k3 k4 k5 k6 k7 k8 k9 k10 k11 k12 k13 k14
  go_wp2_with fail
  refine HF7.out.mono ?_
  rintro e w' ⟨rfl, rfl⟩
  clear HF7
  go_upto_region 27 with fail
  have SF := Lib.hid (fun (W : World) (h : Fr w7.heap.size [] w7 W) => (⟨(h.cell (p := ⟨b7, off7 + k * 13 + 4, none⟩) HBB7 (by simp)).trans R4.out, (h.cell (p := ⟨b7, off7 + k * 13 + 5, none⟩) HBB7 (by simp)).trans (R5.out 0 (by omega)), (h.cell (p := ⟨b7, off7 + k * 13 + 5 + 1, none⟩) HBB7 (by simp)).trans (R5.out 1 (by omega)), (h.cell (p := ⟨b7, off7 + k * 13 + 5 + 2, none⟩) HBB7 (by simp)).trans (R5.out 2 (by omega)), (h.cell (p := ⟨b7, off7 + k * 13 + 5 + 3, none⟩) HBB7 (by simp)).trans (R5.out 3 (by omega)), (h.cell (p := ⟨b7, off7 + k * 13 + 5 + 4, none⟩) HBB7 (by simp)).trans (R5.out 4 (by omega)), (h.cell (p := ⟨b7, off7 + k * 13 + 5 + 5, none⟩) HBB7 (by simp)).trans (R5.out 5 (by omega)), (h.cell (p := ⟨b7, off7 + k * 13 + 5 + 6, none⟩) HBB7 (by simp)).trans (R5.out 6 (by omega)), (h.cell (p := ⟨b7, off7 + k * 13 + 5 + 7, none⟩) HBB7 (by simp)).trans (R5.out 7 (by omega))⟩ : W.cell? ⟨b7, off7 + k * 13 + 4, none⟩ = some (.int .i64 par) ∧ W.cell? ⟨b7, off7 + k * 13 + 5, none⟩ = some (.int .i64 (R 0)) ∧ W.cell? ⟨b7, off7 + k * 13 + 5 + 1, none⟩ = some (.int .i64 (R 1)) ∧ W.cell? ⟨b7, off7 + k * 13 + 5 + 2, none⟩ = some (.int .i64 (R 2)) ∧ W.cell? ⟨b7, off7 + k * 13 + 5 + 3, none⟩ = some (.int .i64 (R 3)) ∧ W.cell? ⟨b7, off7 + k * 13 + 5 + 4, none⟩ = some (.int .i64 (R 4)) ∧ W.cell? ⟨b7, off7 + k * 13 + 5 + 5, none⟩ = some (.int .i64 (R 5)) ∧ W.cell? ⟨b7, off7 + k * 13 + 5 + 6, none⟩ = some (.int .i64 (R 6)) ∧ W.cell? ⟨b7, off7 + k * 13 + 5 + 7, none⟩ = some (.int .i64 (R 7))))
  have hne := a8_ne R
  have INV := Lib.hid (Fr.refl w7.heap.size [] w7).drew
  go_cut [146] (fun s wx => s = .bool false ∧ RowKit.Hid (Fr w7.heap.size [] w7 wx))
  case first =>
    have hpp : (par != par) = false := by simp
    go_region_held3 (fun W => W.cell? ⟨b7, off7 + k * 13 + 4, none⟩ = some (.int .i64 par) ∧ W.cell? ⟨b7, off7 + k * 13 + 5, none⟩ = some (.int .i64 (R 0)) ∧ W.cell? ⟨b7, off7 + k * 13 + 5 + 1, none⟩ = some (.int .i64 (R 1)) ∧ W.cell? ⟨b7, off7 + k * 13 + 5 + 2, none⟩ = some (.int .i64 (R 2)) ∧ W.cell? ⟨b7, off7 + k * 13 + 5 + 3, none⟩ = some (.int .i64 (R 3)) ∧ W.cell? ⟨b7, off7 + k * 13 + 5 + 4, none⟩ = some (.int .i64 (R 4)) ∧ W.cell? ⟨b7, off7 + k * 13 + 5 + 5, none⟩ = some (.int .i64 (R 5)) ∧ W.cell? ⟨b7, off7 + k * 13 + 5 + 6, none⟩ = some (.int .i64 (R 6)) ∧ W.cell? ⟨b7, off7 + k * 13 + 5 + 7, none⟩ = some (.int .i64 (R 7))) (exact SF.out _ INV.out)
      ((go_at_call 12; refine (HEV.out _).mono ?_; rintro e wv ⟨rfl, fv⟩; have INV := Lib.hid (INV.out.trans (fv.mono INV.out.size (by simp))); clear fv))
    all_goals
      go_wp2_with fail
      go_meet
      exact ⟨rfl, INV⟩
  case' rest =>
    obtain ⟨rfl, FX⟩ := hcut
    have F8 := Lib.hid (F7.out.trans (FX.out.mono (B' := w.heap.size) (L' := []) F7.out.size (by simp)))
    have BB8 := Lib.hid (BB7.out.fr FX.out BB7.out.lt (by simp))
    clear FX F7 BB7 SF INV HEV
  have k0 := BB8.out.cell 0
  have k1 := BB8.out.cell 1
  have k2 := BB8.out.cell 2
  have k3 := BB8.out.cell 3
  have k4 := BB8.out.cell 4
  have k5 := BB8.out.cell 5
  have k6 := BB8.out.cell 6
  have k7 := BB8.out.cell 7
  have k8 := BB8.out.cell 8
  have k9 := BB8.out.cell 9
  have k10 := BB8.out.cell 10
  have k11 := BB8.out.cell 11
  have k12 := BB8.out.cell 12
  have k13 := BB8.out.cell 13
  have k14 := BB8.out.cell 14
  simp at k0 k1 k2 k3 k4 k5 k6 k7 k8 k9 k10 k11 k12 k13 k14
  have hxk : x.kind ≠ 0 := by simpa using hkb
  have htz := of_decide_eq_false HPB.out.symm
  have h8 := own_right8 HRT.out (findN_mem HX3.out)
  have h8m : right8 x.par (mergeR x.rt xs tz) = true := merge_right h8 (by omega)
  have HMI := Lib.hid (fun j : Nat => merge_in (xs := xs) h8 (t := tz) (by omega) j)
  have hap := applyR_mv HRT.out HX3.out hxk h8m
  obtain ⟨R9, hR9⟩ : ∃ R, R = mergeR x.rt xs tz := ⟨_, rfl⟩
  rw [← hR9] at hap HSF HMI
  have hix : ixN (updN L id (rtN x.par R9)) id = (k : Int) := by rw [ix_upd (f := rtN x.par R9) (fun _ => rfl)]; exact HIV.out.symm
  have hat : (updN L id (rtN x.par R9))[k]? = some (rtN x.par R9 x) := upd_at HX2.out (findN_id HX3.out)
  have hAR : applyR L [sb] = (0, 0, updN L id (rtN x.par R9)) := by rw [HSF.out]; exact hap
  have HQB := Lib.hid (HRP.out wc F8.out sb (by rw [HSF.out]; rfl) (by rw [HSF.out]; rfl))
  rw [hAR] at HQB
  have HIX9 := Lib.hid hix
  have HAT9 := Lib.hid hat
  have HAPB := Lib.hid hap
  clear hap hix hat hAR hxk htz h8 h8m hR9 HRP
  go_wp2_with fail
  refine HQB.out.mono ?_
  intro e w9 hq
  obtain ⟨A9, c9, n9, M9, rfl, f9, hn9, hf9⟩ := rap_uni (L := L) (p := [mvS id x.par R9]) HAPB.out.symm rfl hq
  have F9 := Lib.hid ((F8.out.alloc F8.out.size _).trans (f9.mono (B' := w.heap.size) (L' := []) (F8.out.alloc F8.out.size _).size (by simp)))
  have hl9 : M9.length ≤ 8 := by
    have h1 := congrArg List.length hf9
    simp only [fstN, updN, List.length_map] at h1
    have := HRT.out.len
    omega
  have hn98 : n9 ≤ 8 := by rw [hn9.num]; exact hl9
  have HF9 := Lib.hid (by have := rfind_any id A9 c9 w9.heap.size n9 M9 w9 hn9 (by omega); rw [hf9, HIX9.out] at this; exact this : Calls Try.prog 8 #[.slice A9 n9 c9, .int .i64 id] w9 fun e w' => e = .returned (.int .i64 (k : Int)) ∧ w9 = w')
  obtain ⟨hkn9, b9, off9, hA9, hb9, r1, r4, r5⟩ := nds_at hn9 (by rw [hf9]; exact HAT9.out)
  subst hA9
  have hki9 : (k : Int) < (n9 : Int) := by omega
  simp only [rtN] at r4 r5
  have R5 := Lib.hid r5
  obtain ⟨_, b0, off0, he0, _, _, s4, s5⟩ := nds_at (H.out.frw F9.out (Nat.le_refl _) (by simp)) (by rw [← HL.out]; exact HX2.out)
  injection he0 with he0
  injection he0 with he1 he2
  subst he1 he2
  have S5 := Lib.hid s5
  clear f9 hq HQB hn9 hf9 r1 r5 s5 k0 k1 k2 k3 k4 k5 k6 k7 k8 k9 k10 k11 k12 k13 k14
  go_wp2_with fail
  refine HF9.out.mono ?_
  rintro e w' ⟨rfl, rfl⟩
  clear HF9
  have hpp : (x.par != x.par) = false := by simp
  go_wp2_with fail
  go_quiet (fail)
  go_wp2_with fail
  have FQ := Lib.hid (F9.out.drewN nq)
  have CL := Lib.hid (fun (j : Nat) (hj : j < 8) => (⟨R5.out j hj, S5.out j hj⟩ : (w9.drewN nq).cell? ⟨b9, off9 + k * 13 + 5 + j, none⟩ = some (.int .i64 (R9 j)) ∧ (w9.drewN nq).cell? ⟨b, off + k * 13 + 5 + j, none⟩ = some (.int .i64 (x.rt j))))
  have HRQ := Lib.hid (HR.out.fr FQ.out (Nat.le_refl _) (by simp))
  generalize w9.drewN _ = wq at *
  go_loopg [27, 28] 8 (fun g s27 s28 wr => ∃ j : Nat, j ≤ 8 ∧ g = 8 - j ∧ s27 = .int .i64 j ∧ wr = wq)
  case atStart => exact ⟨0, by omega, rfl, rfl, rfl⟩
  case round =>
    obtain ⟨j, hj, rfl, rfl, rfl⟩ := hrel
    by_cases hj8 : j < 8
    · have hji : (j : Int) < 8 := by omega
      have hj0 : (0 : Int) ≤ (j : Int) := by omega
      obtain ⟨c1, c2⟩ := CL.out j hj8
      have hmi := HMI.out j
      have HH := Lib.hid (rhas_any (j : Int) Ag cg w.heap.size ng xs wr HNX.out (by omega) HRQ.out)
      rcases Bool.eq_false_or_eq_true (hasI xs j) with hb1 | hb1
      · rw [if_pos hb1] at hmi
        rw [hmi] at c1
        rw [hb1] at HH
        have hn1 : (tz != tz) = false := by simp
        clear hmi hb1
        go_wp2_with fail
        refine HH.out.mono ?_
        rintro e w' ⟨rfl, rfl⟩
        go_wp2_with fail
        go_roundg (8 - (j + 1))
        case measure => omega
        case rel => exact ⟨j + 1, by omega, rfl, by go_num, rfl⟩
      · rw [if_neg (by rw [hb1]; simp)] at hmi
        rw [hmi] at c1
        rw [hb1] at HH
        have hn1 : (x.rt j != x.rt j) = false := by simp
        clear hmi hb1
        go_wp2_with fail
        refine HH.out.mono ?_
        rintro e w' ⟨rfl, rfl⟩
        go_wp2_with fail
        go_roundg (8 - (j + 1))
        case measure => omega
        case rel => exact ⟨j + 1, by omega, rfl, by go_num, rfl⟩
    · obtain rfl : j = 8 := by omega
      go_wp2_with fail
      go_ret
      exact ⟨rfl, FQ.out.below⟩

set_option maxRecDepth 100000 in
set_option maxHeartbeats 32000000 in
theorem pbu_ft (A : Option Addr) (n c : Nat) (M : List Ndm) (hc : n ≤ c) (hm : c ≤ maxLen) (id par tz : Int) (Ag : Option Addr) (ng cg : Nat) (xs : List Int) (hcg : ng ≤ cg) (hmg : cg ≤ maxLen) (hng : ng = xs.length) (w : World) (h : Nds w w.heap.size A n M) (hcap : CapN M) (hg : Reads w w.heap.size 1 Ag ng (xs.map (Value.int .i64))) (hM : wantN (fstN M) id = 0) (hMA : decide (par < 1 ∨ 3 < par) = false) (hMB : decide (tz < 0 ∨ (getN (fstN M) id).par ≤ tz) = true) :
    Calls Try.prog 3 #[.slice A n c, .agg #[.int .i64 id, .int .i64 par, .int .i64 tz], .slice Ag ng cg] w fun e w' => e = .returned (.bool true) ∧ Below w.heap.size w w' := by
  obtain ⟨L, hL⟩ : ∃ L, L = fstN M := ⟨_, rfl⟩
  obtain ⟨gv, hgv⟩ : ∃ v, v = greatP L [] := ⟨_, rfl⟩
  obtain ⟨ga, hga⟩ : ∃ g, g = w.heap.size := ⟨_, rfl⟩
  have fa := (Fr.refl w.heap.size [] w).alloc (Nat.le_refl _) (.cells #[.int .i64 id, .int .i64 par, .int .i64 tz] 23)
  have FA := Lib.hid fa
  have BA := Lib.hid (by rw [hga]; exact Blk.new w 23 #[.int .i64 id, .int .i64 par, .int .i64 tz] : Blk (w.alloc (.cells #[.int .i64 id, .int .i64 par, .int .i64 tz] 23)) ga 23 #[.int .i64 id, .int .i64 par, .int .i64 tz])
  obtain ⟨w0, hw0⟩ : ∃ w0, w0 = w.alloc (.cells #[.int .i64 id, .int .i64 par, .int .i64 tz] 23) := ⟨_, rfl⟩
  rw [← hw0] at FA BA
  have HA := Lib.hid (awake10_any w0)
  have HG := Lib.hid (fun (wx : World) (hx : Fr w.heap.size [] w wx) => (by rw [hgv, hL]; exact great10_any A none c 0 w.heap.size n 0 M [] wx (h.frw hx (Nat.le_refl _) (by simp)) hx.size (by omega) ⟨rfl, Reads.none_, by simp⟩ (by simp [maxLen]) : Calls Try.prog 6 #[.slice A n c, .slice none 0 0] wx fun e w' => e = .returned (.bool gv) ∧ Fr wx.heap.size [] wx w'))
  have HM := Lib.hid (by rw [hL]; exact hM : wantN L id = 0)
  have HMB := Lib.hid (by rw [hL]; exact hMB : decide (tz < 0 ∨ (getN L id).par ≤ tz) = true)
  have HPA := Lib.hid hMA.symm
  clear hM hMA hMB
  have HL := Lib.hid hL
  have HGV := Lib.hid hgv
  have HGA := Lib.hid hga
  have H := Lib.hid h
  have HR := Lib.hid hg
  have HCP := Lib.hid hcap
  have HNX := Lib.hid hng
  have HW0 := Lib.hid hw0
  clear hL hgv h hcap hg hng fa hga hw0
  unfold maxLen at hm hmg
  go_enter Try.func3, Try.ntmps3
  go_upto_region 1 with fail
  rw [← HW0.out, ← HGA.out]
  go_wp2_with fail
  refine HA.out.mono ?_
  rintro e w1 ⟨rfl, f1⟩
  have F1 := Lib.hid (FA.out.trans (f1.mono (B' := w.heap.size) (L' := []) FA.out.size (by simp)))
  have BA1 := Lib.hid (BA.out.fr f1 BA.out.lt (by simp))
  have HG1 := Lib.hid (HG.out w1 F1.out)
  clear f1 HA HG FA BA
  go_wp2_with fail
  refine HG1.out.mono ?_
  rintro e w2 ⟨rfl, f2⟩
  have F2 := Lib.hid (F1.out.trans (f2.mono (B' := w.heap.size) (L' := []) F1.out.size (by simp)))
  have BA2 := Lib.hid (BA1.out.fr f2 BA1.out.lt (by simp))
  clear f2 HG1 F1 BA1
  cases gv with
  | true =>
    go_wp2_with fail
    go_ret
    exact ⟨rfl, F2.out.below⟩
  | false => ?_
  by_cases hg60 : 60 < ng
  · have hg60i : (60 : Int) < (ng : Int) := by omega
    go_wp2_with fail
    go_ret
    exact ⟨rfl, F2.out.below⟩
  have hg60i : (ng : Int) ≤ 60 := by omega
  obtain ⟨hl20, hsm, hk, _, _⟩ := greatP_no (S := []) (by rw [← HL.out]; exact HGV.out.symm)
  have HSM := Lib.hid hsm
  have HK := Lib.hid hk
  have hn20 : n ≤ 20 := by have := H.out.num; omega
  obtain ⟨cv, hcv⟩ : ∃ v, v = checkN L := ⟨_, rfl⟩
  obtain ⟨iv, hiv⟩ : ∃ v, v = ixN L id := ⟨_, rfl⟩
  obtain ⟨av, hav⟩ : ∃ v, v = wantA L id par := ⟨_, rfl⟩
  obtain ⟨bv, hbv⟩ : ∃ v, v = wantB L id tz := ⟨_, rfl⟩
  have HCK := Lib.hid (fun (wx : World) (hx : Fr w.heap.size [] w wx) => (by rw [hcv, HL.out]; exact rcheck_any A c w.heap.size n M wx (H.out.frw hx (Nat.le_refl _) (by simp)) hx.size hsm HCP.out : Calls Try.prog 7 #[.slice A n c] wx fun e w' => e = .returned (.int .i64 cv) ∧ Fr wx.heap.size [] wx w'))
  have HFX := Lib.hid (fun (wx : World) (hx : Fr w.heap.size [] w wx) => (by rw [hiv, HL.out]; exact rfind_any id A c w.heap.size n M wx (H.out.frw hx (Nat.le_refl _) (by simp)) (by omega) : Calls Try.prog 8 #[.slice A n c, .int .i64 id] wx fun e w' => e = .returned (.int .i64 iv) ∧ wx = w'))
  obtain ⟨sa, hsa⟩ : ∃ s, s = saidS av (mvS id par (evenR par)) := ⟨_, rfl⟩
  obtain ⟨sb, hsb⟩ : ∃ s, s = (if bv = 0 then mvS id (getN L id).par (mergeR (getN L id).rt xs tz) else zS) := ⟨_, rfl⟩
  have HRS := Lib.hid (fun (wx : World) (hx : Fr w.heap.size [] w wx) => ((rescale_any id par A c w.heap.size n M wx (H.out.frw hx (Nat.le_refl _) (by simp)) hx.size hsm hk).mono (fun e w' hq => by
    unfold TriedOut at hq
    rw [← HL.out, rescale_says, ← hav, ← hsa] at hq
    exact hq) : Calls Try.prog 9 #[.slice A n c, .int .i64 id, .int .i64 par] wx fun e w' => e = .returned (.tuple #[.agg (stV sa (.slice none 0 0) (.slice none 0 0)), .int .i64 av]) ∧ Fr wx.heap.size [] wx w'))
  have HMG := Lib.hid (fun (wx : World) (hx : Fr w.heap.size [] w wx) => ((migrate_any id tz Ag ng cg xs A c w.heap.size n M wx (H.out.frw hx (Nat.le_refl _) (by simp)) hx.size hsm hk (HR.out.fr hx (Nat.le_refl _) (by simp)) (by omega)).mono (fun e w' hq => by
    unfold MigOut at hq
    have hms := migrate_says L id tz xs
    rw [← HL.out] at hq
    rw [hms, ← hbv] at hq
    have hsb2 : (if migB (stepN L (mvS id (getN L id).par (mergeR (getN L id).rt xs tz))).1 (checkN L) tz (getN L id).par then zS else saidS (stepN L (mvS id (getN L id).par (mergeR (getN L id).rt xs tz))).1 (mvS id (getN L id).par (mergeR (getN L id).rt xs tz))) = sb := by
      rw [hsb]
      rw [← hbv] at hms
      by_cases hb : migB (stepN L (mvS id (getN L id).par (mergeR (getN L id).rt xs tz))).1 (checkN L) tz (getN L id).par = true
      · rw [if_pos hb] at hms ⊢
        rw [if_neg (by rw [← hms]; decide)]
      · rw [if_neg hb] at hms ⊢
        rw [hms]
        rfl
    rw [hsb2] at hq
    exact hq) : Calls Try.prog 10 #[.slice A n c, .int .i64 id, .int .i64 tz, .slice Ag ng cg] wx fun e w' => e = .returned (.tuple #[.agg (stV sb (.slice none 0 0) (.slice none 0 0)), .int .i64 bv]) ∧ Fr wx.heap.size [] wx w'))
  have HCV := Lib.hid hcv
  have HIV := Lib.hid hiv
  have HAV := Lib.hid hav
  have HBV := Lib.hid hbv
  have HSA := Lib.hid hsa
  have HSB := Lib.hid hsb
  clear hcv hiv hav hbv hsa hsb hsm hk hl20 hg60
  have a0 := BA2.out.cell 0
  have a1 := BA2.out.cell 1
  have a2 := BA2.out.cell 2
  simp at a0 a1 a2
  go_wp2_with fail
  go_quiet (fail)
  have F2q := Lib.hid (F2.out.drewN nq)
  clear a0 a1 a2 BA2
  have HC2 := Lib.hid (HCK.out _ F2q.out)
  clear HCK
  go_wp2_with fail
  refine HC2.out.mono ?_
  rintro e w3 ⟨rfl, f3⟩
  have F3 := Lib.hid (F2q.out.trans (f3.mono (B' := w.heap.size) (L' := []) F2q.out.size (by simp)))
  have HF3 := Lib.hid (HFX.out w3 F3.out)
  have HR3 := Lib.hid (HRS.out w3 F3.out)
  clear f3 HC2 F2 F2q HRS
  by_cases hcz : cv = 0
  case' neg => exact absurd HM.out (by unfold wantN; rw [if_pos (by rw [← HCV.out]; exact hcz)]; decide)
  subst hcz
  have hright : RightG L := checkN_zero.1 HCV.out.symm
  have HRT := Lib.hid hright
  have HCZ := Lib.hid HCV.out.symm
  rcases ixN_cases L id with ⟨hx1, hx2⟩ | ⟨k, x, hx1, hx2, hx3⟩
  case' inl => exact absurd ((want_none HCZ.out hx2).symm.trans HM.out) (by decide)
  rw [← HIV.out] at hx1
  subst hx1
  obtain ⟨hkn, b, off, hA, hb, p1, p4, p5⟩ := nds_at (H.out.frw F3.out (Nat.le_refl _) (by simp)) (by rw [← HL.out]; exact hx2)
  have hki : (k : Int) < (n : Int) := by omega
  have hk0 : (0 : Int) ≤ (k : Int) := by omega
  subst hA
  have HX2 := Lib.hid hx2
  have HX3 := Lib.hid hx3
  clear hx2 hx3 p5
  by_cases hkd : x.kind = 0
  case' pos => exact absurd ((want_src HCZ.out HX3.out hkd).symm.trans HM.out) (by decide)
  have hkb : (x.kind == 0) = false := by simp [hkd]
  have hw0 := want_ok HCZ.out HX3.out hkd
  have HGX := Lib.hid (getN_some HX3.out : getN L id = x)
  have HW0 := Lib.hid hw0
  have HA0 := Lib.hid (show av = if par < 1 ∨ 3 < par then 10 else 0 by rw [HAV.out]; unfold wantA; rw [hw0]; simp)
  have HB0 := Lib.hid (show bv = if tz < 0 ∨ x.par ≤ tz then 11 else 0 by rw [HBV.out]; unfold wantB; rw [hw0, HGX.out]; simp)
  clear hw0 hkd hright
  have HRP := Lib.hid (fun (wx : World) (hx : Fr w.heap.size [] w wx) (s : Stp) (h1 : s.nd.fr = []) (h2 : s.nd.pg = []) => (by
    have fb := (Fr.refl wx.heap.size [] wx).alloc (Nat.le_refl _) (.cells #[.int .i64 s.kind, .int .i64 s.nd.id, .int .i64 s.nd.kind, .slice none 0 0, .slice none 0 0, .int .i64 s.nd.par, .int .i64 (s.nd.rt 0), .int .i64 (s.nd.rt 1), .int .i64 (s.nd.rt 2), .int .i64 (s.nd.rt 3), .int .i64 (s.nd.rt 4), .int .i64 (s.nd.rt 5), .int .i64 (s.nd.rt 6), .int .i64 (s.nd.rt 7), .bool s.rs] 35)
    have fw := hx.trans (fb.mono (B' := w.heap.size) (L' := []) hx.size (by simp))
    have hst : Sts (wx.alloc (.cells #[.int .i64 s.kind, .int .i64 s.nd.id, .int .i64 s.nd.kind, .slice none 0 0, .slice none 0 0, .int .i64 s.nd.par, .int .i64 (s.nd.rt 0), .int .i64 (s.nd.rt 1), .int .i64 (s.nd.rt 2), .int .i64 (s.nd.rt 3), .int .i64 (s.nd.rt 4), .int .i64 (s.nd.rt 5), .int .i64 (s.nd.rt 6), .int .i64 (s.nd.rt 7), .bool s.rs] 35)) (wx.heap.size + 1) (some ⟨wx.heap.size, 0, none⟩) 1 [(s, .slice none 0 0, .slice none 0 0)] := ⟨rfl, by
      have := Reads.of_blk (size := 15) (m := 1) (Blk.new wx 35 #[.int .i64 s.kind, .int .i64 s.nd.id, .int .i64 s.nd.kind, .slice none 0 0, .slice none 0 0, .int .i64 s.nd.par, .int .i64 (s.nd.rt 0), .int .i64 (s.nd.rt 1), .int .i64 (s.nd.rt 2), .int .i64 (s.nd.rt 3), .int .i64 (s.nd.rt 4), .int .i64 (s.nd.rt 5), .int .i64 (s.nd.rt 6), .int .i64 (s.nd.rt 7), .bool s.rs]) rfl
      exact this, fun m hm => by
      rw [List.mem_singleton.1 hm]
      exact nd_bare _ _ _ h1 h2⟩
    have := rapply_any (some ⟨b, off, none⟩) (some ⟨wx.heap.size, 0, none⟩) c 1 (wx.heap.size + 1) n 1 M [(s, .slice none 0 0, .slice none 0 0)] (wx.alloc (.cells #[.int .i64 s.kind, .int .i64 s.nd.id, .int .i64 s.nd.kind, .slice none 0 0, .slice none 0 0, .int .i64 s.nd.par, .int .i64 (s.nd.rt 0), .int .i64 (s.nd.rt 1), .int .i64 (s.nd.rt 2), .int .i64 (s.nd.rt 3), .int .i64 (s.nd.rt 4), .int .i64 (s.nd.rt 5), .int .i64 (s.nd.rt 6), .int .i64 (s.nd.rt 7), .bool s.rs] 35)) ((H.out.frw fw (Nat.le_refl _) (by simp)).more (by have := hx.size; omega)) (by simp) HSM.out hst (fun m hm => by rw [List.mem_singleton.1 hm]; simp only; rw [h1, h2]; simp) (by omega) HCP.out hc (fun m hm A n c he => by rw [List.mem_singleton.1 hm] at he; injection he with _ h5 h6; omega)
    rw [← HL.out] at this
    exact this : Calls Try.prog 11 #[.slice (some ⟨b, off, none⟩) n c, .slice (some ⟨wx.heap.size, 0, none⟩) 1 1] (wx.alloc (.cells #[.int .i64 s.kind, .int .i64 s.nd.id, .int .i64 s.nd.kind, .slice none 0 0, .slice none 0 0, .int .i64 s.nd.par, .int .i64 (s.nd.rt 0), .int .i64 (s.nd.rt 1), .int .i64 (s.nd.rt 2), .int .i64 (s.nd.rt 3), .int .i64 (s.nd.rt 4), .int .i64 (s.nd.rt 5), .int .i64 (s.nd.rt 6), .int .i64 (s.nd.rt 7), .bool s.rs] 35)) (RApOut (applyR L [s]) (wx.alloc (.cells #[.int .i64 s.kind, .int .i64 s.nd.id, .int .i64 s.nd.kind, .slice none 0 0, .slice none 0 0, .int .i64 s.nd.par, .int .i64 (s.nd.rt 0), .int .i64 (s.nd.rt 1), .int .i64 (s.nd.rt 2), .int .i64 (s.nd.rt 3), .int .i64 (s.nd.rt 4), .int .i64 (s.nd.rt 5), .int .i64 (s.nd.rt 6), .int .i64 (s.nd.rt 7), .bool s.rs] 35)))))
  have HPB := Lib.hid (by rw [← HMB.out, HGX.out] : true = decide (tz < 0 ∨ x.par ≤ tz))
  have HP4 := Lib.hid p4
  clear p4 HMB
  go_wp2_with fail
  refine HF3.out.mono ?_
  rintro e w' ⟨rfl, rfl⟩
  clear HF3
  go_upto_region 16 with fail
  go_cut [74] (fun s wx => s = .bool false ∧ wx = w3)
  case first =>
    have c0 := of_decide_eq_false HPA.out.symm
    have c1 : 1 ≤ par := by omega
    have c2 : par ≤ 3 := by omega
    clear c0
    go_wp2_with fail
    go_meet
    first | exact ⟨rfl, rfl⟩ | exact ⟨congrArg Value.bool (by simp; omega), rfl⟩
  case' rest =>
    obtain ⟨rfl, hw3⟩ := hcut
    subst hw3
    have p4 := HP4.out
  go_upto_region 18 with fail
  go_cut [89] (fun s wx => s = .bool true ∧ wx = wc)
  case first =>
    rcases of_decide_eq_true HPB.out.symm with c1 | c1
    · go_wp2_with fail
      go_meet
      first | exact ⟨rfl, rfl⟩ | exact ⟨congrArg Value.bool (by simp; omega), rfl⟩
    · by_cases c0 : tz < 0
      · go_wp2_with fail
        go_meet
        first | exact ⟨rfl, rfl⟩ | exact ⟨congrArg Value.bool (by simp; omega), rfl⟩
      · have c2 : 0 ≤ tz := by omega
        go_wp2_with fail
        go_meet
        first | exact ⟨rfl, rfl⟩ | exact ⟨congrArg Value.bool (by simp; omega), rfl⟩
  case' rest =>
    obtain ⟨rfl, hw4⟩ := hcut
    subst hw4

  have hA : av = 0 := by rw [HA0.out, if_neg (of_decide_eq_false HPA.out.symm)]
  have hB : bv = 11 := by rw [HB0.out, if_pos (of_decide_eq_true HPB.out.symm)]
  subst hA hB
  have HSE := Lib.hid (show sa = mvS id par (evenR par) from HSA.out)
  clear HSA HSB HA0 HB0
  go_wp2_with fail
  refine HR3.out.mono ?_
  rintro e w4 ⟨rfl, f4⟩
  have F4 := Lib.hid (F3.out.trans (f4.mono (B' := w.heap.size) (L' := []) F3.out.size (by simp)))
  clear f4 HR3
  have F4a := Lib.hid (F4.out.alloc F4.out.size (.cells #[.int .i64 sa.kind, .int .i64 sa.nd.id, .int .i64 sa.nd.kind, .slice none 0 0, .slice none 0 0, .int .i64 sa.nd.par, .int .i64 (sa.nd.rt 0), .int .i64 (sa.nd.rt 1), .int .i64 (sa.nd.rt 2), .int .i64 (sa.nd.rt 3), .int .i64 (sa.nd.rt 4), .int .i64 (sa.nd.rt 5), .int .i64 (sa.nd.rt 6), .int .i64 (sa.nd.rt 7), .bool sa.rs] 35))
  have BA4 := Lib.hid (Blk.new w4 35 #[.int .i64 sa.kind, .int .i64 sa.nd.id, .int .i64 sa.nd.kind, .slice none 0 0, .slice none 0 0, .int .i64 sa.nd.par, .int .i64 (sa.nd.rt 0), .int .i64 (sa.nd.rt 1), .int .i64 (sa.nd.rt 2), .int .i64 (sa.nd.rt 3), .int .i64 (sa.nd.rt 4), .int .i64 (sa.nd.rt 5), .int .i64 (sa.nd.rt 6), .int .i64 (sa.nd.rt 7), .bool sa.rs])
  have HM4 := Lib.hid (HMG.out _ F4a.out)
  go_wp2_with fail
  refine HM4.out.mono ?_
  rintro e w5 ⟨rfl, f5⟩
  have F5 := Lib.hid (F4a.out.trans (f5.mono (B' := w.heap.size) (L' := []) F4a.out.size (by simp)))
  have BA5 := Lib.hid ((BA4.out.fr f5 BA4.out.lt (by simp)).alloc (.cells #[.int .i64 sb.kind, .int .i64 sb.nd.id, .int .i64 sb.nd.kind, .slice none 0 0, .slice none 0 0, .int .i64 sb.nd.par, .int .i64 (sb.nd.rt 0), .int .i64 (sb.nd.rt 1), .int .i64 (sb.nd.rt 2), .int .i64 (sb.nd.rt 3), .int .i64 (sb.nd.rt 4), .int .i64 (sb.nd.rt 5), .int .i64 (sb.nd.rt 6), .int .i64 (sb.nd.rt 7), .bool sb.rs] 35))
  have BB5 := Lib.hid (Blk.new w5 35 #[.int .i64 sb.kind, .int .i64 sb.nd.id, .int .i64 sb.nd.kind, .slice none 0 0, .slice none 0 0, .int .i64 sb.nd.par, .int .i64 (sb.nd.rt 0), .int .i64 (sb.nd.rt 1), .int .i64 (sb.nd.rt 2), .int .i64 (sb.nd.rt 3), .int .i64 (sb.nd.rt 4), .int .i64 (sb.nd.rt 5), .int .i64 (sb.nd.rt 6), .int .i64 (sb.nd.rt 7), .bool sb.rs])
  have F6 := Lib.hid (F5.out.alloc F5.out.size (.cells #[.int .i64 sb.kind, .int .i64 sb.nd.id, .int .i64 sb.nd.kind, .slice none 0 0, .slice none 0 0, .int .i64 sb.nd.par, .int .i64 (sb.nd.rt 0), .int .i64 (sb.nd.rt 1), .int .i64 (sb.nd.rt 2), .int .i64 (sb.nd.rt 3), .int .i64 (sb.nd.rt 4), .int .i64 (sb.nd.rt 5), .int .i64 (sb.nd.rt 6), .int .i64 (sb.nd.rt 7), .bool sb.rs] 35))
  clear f5 HM4 HMG BA4 F4a
  go_upto_region 22 with fail
  generalize w5.alloc _ = w6 at *
  generalize w4.heap.size = gA at *
  generalize w5.heap.size = gB at *
  have k0 := BA5.out.cell 0
  have k1 := BA5.out.cell 1
  have k2 := BA5.out.cell 2
  have k3 := BA5.out.cell 3
  have k4 := BA5.out.cell 4
  have k5 := BA5.out.cell 5
  have k6 := BA5.out.cell 6
  have k7 := BA5.out.cell 7
  have k8 := BA5.out.cell 8
  have k9 := BA5.out.cell 9
  have k10 := BA5.out.cell 10
  have k11 := BA5.out.cell 11
  have k12 := BA5.out.cell 12
  have k13 := BA5.out.cell 13
  have k14 := BA5.out.cell 14
  simp at k0 k1 k2 k3 k4 k5 k6 k7 k8 k9 k10 k11 k12 k13 k14
  have hxk : x.kind ≠ 0 := by simpa using hkb
  have hpar := of_decide_eq_false HPA.out.symm
  have hap := applyR_mv HRT.out HX3.out hxk (even_right (p := par) (by omega))
  have hix : ixN (updN L id (rtN par (evenR par))) id = (k : Int) := by rw [ix_upd (f := rtN par (evenR par)) (fun _ => rfl)]; exact HIV.out.symm
  have hat : (updN L id (rtN par (evenR par)))[k]? = some (rtN par (evenR par) x) := upd_at HX2.out (findN_id HX3.out)
  have hAR : applyR L [sa] = (0, 0, updN L id (rtN par (evenR par))) := by rw [HSE.out]; exact hap
  have HAP := Lib.hid (HRP.out w6 F6.out sa (by rw [HSE.out]; rfl) (by rw [HSE.out]; rfl))
  rw [hAR] at HAP
  have HIX := Lib.hid hix
  have HAT := Lib.hid hat
  clear hap hix hat hAR hxk hpar
  go_wp2_with fail
  refine HAP.out.mono ?_
  intro e w7 hq
  obtain ⟨A7, c7, n7, M7, rfl, f7, hn7, hf7⟩ := rap_uni (L := L) (p := [mvS id par (evenR par)]) (by rw [← HSE.out]; exact (by rw [HSE.out]; exact (applyR_mv HRT.out HX3.out (by simpa using hkb) (even_right (p := par) (by have := of_decide_eq_false HPA.out.symm; omega))).symm)) rfl hq
  have F7 := Lib.hid ((F6.out.alloc F6.out.size _).trans (f7.mono (B' := w.heap.size) (L' := []) (F6.out.alloc F6.out.size _).size (by simp)))
  have BB7 := Lib.hid ((BB5.out.alloc _).fr f7 (BB5.out.alloc _).lt (by simp))
  have hl7 : M7.length ≤ 8 := by
    have h1 := congrArg List.length hf7
    simp only [fstN, updN, List.length_map] at h1
    have := HRT.out.len
    omega
  have hn78 : n7 ≤ 8 := by rw [hn7.num]; exact hl7
  have HF7 := Lib.hid (by have := rfind_any id A7 c7 w7.heap.size n7 M7 w7 hn7 (by omega); rw [hf7, HIX.out] at this; exact this : Calls Try.prog 8 #[.slice A7 n7 c7, .int .i64 id] w7 fun e w' => e = .returned (.int .i64 (k : Int)) ∧ w7 = w')
  obtain ⟨hkn7, b7, off7, hA7, hb7, r1, r4, r5⟩ := nds_at hn7 (by rw [hf7]; exact HAT.out)
  subst hA7
  have hki7 : (k : Int) < (n7 : Int) := by omega
  obtain ⟨R, hR⟩ : ∃ R, R = evenR par := ⟨_, rfl⟩
  have HEV := Lib.hid (fun (wx : World) => (by rw [hR]; exact even_any par wx : Calls Try.prog 12 #[.int .i64 par] wx fun e w' => e = .returned (A8 R) ∧ Fr wx.heap.size [] wx w'))
  simp only [rtN] at r4 r5
  rw [← hR] at r5
  have R5 := Lib.hid r5
  have R4 := Lib.hid r4
  have HBB7 : b7 < w7.heap.size := hb7
  clear f7 hq HAP hn7 hf7 r1 r4 r5 hR F6 BA5 BB5 k0 k1 k2 k3 k4 k5 k6 k7 k8 k9 k10 k11 k12 k13 k14
  go_wp2_with fail
  refine HF7.out.mono ?_
  rintro e w' ⟨rfl, rfl⟩
  clear HF7
  go_upto_region 27 with fail
  have SF := Lib.hid (fun (W : World) (h : Fr w7.heap.size [] w7 W) => (⟨(h.cell (p := ⟨b7, off7 + k * 13 + 4, none⟩) HBB7 (by simp)).trans R4.out, (h.cell (p := ⟨b7, off7 + k * 13 + 5, none⟩) HBB7 (by simp)).trans (R5.out 0 (by omega)), (h.cell (p := ⟨b7, off7 + k * 13 + 5 + 1, none⟩) HBB7 (by simp)).trans (R5.out 1 (by omega)), (h.cell (p := ⟨b7, off7 + k * 13 + 5 + 2, none⟩) HBB7 (by simp)).trans (R5.out 2 (by omega)), (h.cell (p := ⟨b7, off7 + k * 13 + 5 + 3, none⟩) HBB7 (by simp)).trans (R5.out 3 (by omega)), (h.cell (p := ⟨b7, off7 + k * 13 + 5 + 4, none⟩) HBB7 (by simp)).trans (R5.out 4 (by omega)), (h.cell (p := ⟨b7, off7 + k * 13 + 5 + 5, none⟩) HBB7 (by simp)).trans (R5.out 5 (by omega)), (h.cell (p := ⟨b7, off7 + k * 13 + 5 + 6, none⟩) HBB7 (by simp)).trans (R5.out 6 (by omega)), (h.cell (p := ⟨b7, off7 + k * 13 + 5 + 7, none⟩) HBB7 (by simp)).trans (R5.out 7 (by omega))⟩ : W.cell? ⟨b7, off7 + k * 13 + 4, none⟩ = some (.int .i64 par) ∧ W.cell? ⟨b7, off7 + k * 13 + 5, none⟩ = some (.int .i64 (R 0)) ∧ W.cell? ⟨b7, off7 + k * 13 + 5 + 1, none⟩ = some (.int .i64 (R 1)) ∧ W.cell? ⟨b7, off7 + k * 13 + 5 + 2, none⟩ = some (.int .i64 (R 2)) ∧ W.cell? ⟨b7, off7 + k * 13 + 5 + 3, none⟩ = some (.int .i64 (R 3)) ∧ W.cell? ⟨b7, off7 + k * 13 + 5 + 4, none⟩ = some (.int .i64 (R 4)) ∧ W.cell? ⟨b7, off7 + k * 13 + 5 + 5, none⟩ = some (.int .i64 (R 5)) ∧ W.cell? ⟨b7, off7 + k * 13 + 5 + 6, none⟩ = some (.int .i64 (R 6)) ∧ W.cell? ⟨b7, off7 + k * 13 + 5 + 7, none⟩ = some (.int .i64 (R 7))))
  have hne := a8_ne R
  have INV := Lib.hid (Fr.refl w7.heap.size [] w7).drew
  go_cut [146] (fun s wx => s = .bool false ∧ RowKit.Hid (Fr w7.heap.size [] w7 wx))
  case first =>
    have hpp : (par != par) = false := by simp
    go_region_held3 (fun W => W.cell? ⟨b7, off7 + k * 13 + 4, none⟩ = some (.int .i64 par) ∧ W.cell? ⟨b7, off7 + k * 13 + 5, none⟩ = some (.int .i64 (R 0)) ∧ W.cell? ⟨b7, off7 + k * 13 + 5 + 1, none⟩ = some (.int .i64 (R 1)) ∧ W.cell? ⟨b7, off7 + k * 13 + 5 + 2, none⟩ = some (.int .i64 (R 2)) ∧ W.cell? ⟨b7, off7 + k * 13 + 5 + 3, none⟩ = some (.int .i64 (R 3)) ∧ W.cell? ⟨b7, off7 + k * 13 + 5 + 4, none⟩ = some (.int .i64 (R 4)) ∧ W.cell? ⟨b7, off7 + k * 13 + 5 + 5, none⟩ = some (.int .i64 (R 5)) ∧ W.cell? ⟨b7, off7 + k * 13 + 5 + 6, none⟩ = some (.int .i64 (R 6)) ∧ W.cell? ⟨b7, off7 + k * 13 + 5 + 7, none⟩ = some (.int .i64 (R 7))) (exact SF.out _ INV.out)
      ((go_at_call 12; refine (HEV.out _).mono ?_; rintro e wv ⟨rfl, fv⟩; have INV := Lib.hid (INV.out.trans (fv.mono INV.out.size (by simp))); clear fv))
    all_goals
      go_wp2_with fail
      go_meet
      exact ⟨rfl, INV⟩
  case' rest =>
    obtain ⟨rfl, FX⟩ := hcut
    have F8 := Lib.hid (F7.out.trans (FX.out.mono (B' := w.heap.size) (L' := []) F7.out.size (by simp)))
    have BB8 := Lib.hid (BB7.out.fr FX.out BB7.out.lt (by simp))
    clear FX F7 BB7 SF INV HEV
  go_wp2_with fail
  go_ret
  exact ⟨rfl, F8.out.below⟩

set_option maxRecDepth 100000 in
set_option maxHeartbeats 32000000 in
theorem pbu_tf (A : Option Addr) (n c : Nat) (M : List Ndm) (hc : n ≤ c) (hm : c ≤ maxLen) (id par tz : Int) (Ag : Option Addr) (ng cg : Nat) (xs : List Int) (hcg : ng ≤ cg) (hmg : cg ≤ maxLen) (hng : ng = xs.length) (w : World) (h : Nds w w.heap.size A n M) (hcap : CapN M) (hg : Reads w w.heap.size 1 Ag ng (xs.map (Value.int .i64))) (hM : wantN (fstN M) id = 0) (hMA : decide (par < 1 ∨ 3 < par) = true) (hMB : decide (tz < 0 ∨ (getN (fstN M) id).par ≤ tz) = false) :
    Calls Try.prog 3 #[.slice A n c, .agg #[.int .i64 id, .int .i64 par, .int .i64 tz], .slice Ag ng cg] w fun e w' => e = .returned (.bool true) ∧ Below w.heap.size w w' := by
  obtain ⟨L, hL⟩ : ∃ L, L = fstN M := ⟨_, rfl⟩
  obtain ⟨gv, hgv⟩ : ∃ v, v = greatP L [] := ⟨_, rfl⟩
  obtain ⟨ga, hga⟩ : ∃ g, g = w.heap.size := ⟨_, rfl⟩
  have fa := (Fr.refl w.heap.size [] w).alloc (Nat.le_refl _) (.cells #[.int .i64 id, .int .i64 par, .int .i64 tz] 23)
  have FA := Lib.hid fa
  have BA := Lib.hid (by rw [hga]; exact Blk.new w 23 #[.int .i64 id, .int .i64 par, .int .i64 tz] : Blk (w.alloc (.cells #[.int .i64 id, .int .i64 par, .int .i64 tz] 23)) ga 23 #[.int .i64 id, .int .i64 par, .int .i64 tz])
  obtain ⟨w0, hw0⟩ : ∃ w0, w0 = w.alloc (.cells #[.int .i64 id, .int .i64 par, .int .i64 tz] 23) := ⟨_, rfl⟩
  rw [← hw0] at FA BA
  have HA := Lib.hid (awake10_any w0)
  have HG := Lib.hid (fun (wx : World) (hx : Fr w.heap.size [] w wx) => (by rw [hgv, hL]; exact great10_any A none c 0 w.heap.size n 0 M [] wx (h.frw hx (Nat.le_refl _) (by simp)) hx.size (by omega) ⟨rfl, Reads.none_, by simp⟩ (by simp [maxLen]) : Calls Try.prog 6 #[.slice A n c, .slice none 0 0] wx fun e w' => e = .returned (.bool gv) ∧ Fr wx.heap.size [] wx w'))
  have HM := Lib.hid (by rw [hL]; exact hM : wantN L id = 0)
  have HMB := Lib.hid (by rw [hL]; exact hMB : decide (tz < 0 ∨ (getN L id).par ≤ tz) = false)
  have HPA := Lib.hid hMA.symm
  clear hM hMA hMB
  have HL := Lib.hid hL
  have HGV := Lib.hid hgv
  have HGA := Lib.hid hga
  have H := Lib.hid h
  have HR := Lib.hid hg
  have HCP := Lib.hid hcap
  have HNX := Lib.hid hng
  have HW0 := Lib.hid hw0
  clear hL hgv h hcap hg hng fa hga hw0
  unfold maxLen at hm hmg
  go_enter Try.func3, Try.ntmps3
  go_upto_region 1 with fail
  rw [← HW0.out, ← HGA.out]
  go_wp2_with fail
  refine HA.out.mono ?_
  rintro e w1 ⟨rfl, f1⟩
  have F1 := Lib.hid (FA.out.trans (f1.mono (B' := w.heap.size) (L' := []) FA.out.size (by simp)))
  have BA1 := Lib.hid (BA.out.fr f1 BA.out.lt (by simp))
  have HG1 := Lib.hid (HG.out w1 F1.out)
  clear f1 HA HG FA BA
  go_wp2_with fail
  refine HG1.out.mono ?_
  rintro e w2 ⟨rfl, f2⟩
  have F2 := Lib.hid (F1.out.trans (f2.mono (B' := w.heap.size) (L' := []) F1.out.size (by simp)))
  have BA2 := Lib.hid (BA1.out.fr f2 BA1.out.lt (by simp))
  clear f2 HG1 F1 BA1
  cases gv with
  | true =>
    go_wp2_with fail
    go_ret
    exact ⟨rfl, F2.out.below⟩
  | false => ?_
  by_cases hg60 : 60 < ng
  · have hg60i : (60 : Int) < (ng : Int) := by omega
    go_wp2_with fail
    go_ret
    exact ⟨rfl, F2.out.below⟩
  have hg60i : (ng : Int) ≤ 60 := by omega
  obtain ⟨hl20, hsm, hk, _, _⟩ := greatP_no (S := []) (by rw [← HL.out]; exact HGV.out.symm)
  have HSM := Lib.hid hsm
  have HK := Lib.hid hk
  have hn20 : n ≤ 20 := by have := H.out.num; omega
  obtain ⟨cv, hcv⟩ : ∃ v, v = checkN L := ⟨_, rfl⟩
  obtain ⟨iv, hiv⟩ : ∃ v, v = ixN L id := ⟨_, rfl⟩
  obtain ⟨av, hav⟩ : ∃ v, v = wantA L id par := ⟨_, rfl⟩
  obtain ⟨bv, hbv⟩ : ∃ v, v = wantB L id tz := ⟨_, rfl⟩
  have HCK := Lib.hid (fun (wx : World) (hx : Fr w.heap.size [] w wx) => (by rw [hcv, HL.out]; exact rcheck_any A c w.heap.size n M wx (H.out.frw hx (Nat.le_refl _) (by simp)) hx.size hsm HCP.out : Calls Try.prog 7 #[.slice A n c] wx fun e w' => e = .returned (.int .i64 cv) ∧ Fr wx.heap.size [] wx w'))
  have HFX := Lib.hid (fun (wx : World) (hx : Fr w.heap.size [] w wx) => (by rw [hiv, HL.out]; exact rfind_any id A c w.heap.size n M wx (H.out.frw hx (Nat.le_refl _) (by simp)) (by omega) : Calls Try.prog 8 #[.slice A n c, .int .i64 id] wx fun e w' => e = .returned (.int .i64 iv) ∧ wx = w'))
  obtain ⟨sa, hsa⟩ : ∃ s, s = saidS av (mvS id par (evenR par)) := ⟨_, rfl⟩
  obtain ⟨sb, hsb⟩ : ∃ s, s = (if bv = 0 then mvS id (getN L id).par (mergeR (getN L id).rt xs tz) else zS) := ⟨_, rfl⟩
  have HRS := Lib.hid (fun (wx : World) (hx : Fr w.heap.size [] w wx) => ((rescale_any id par A c w.heap.size n M wx (H.out.frw hx (Nat.le_refl _) (by simp)) hx.size hsm hk).mono (fun e w' hq => by
    unfold TriedOut at hq
    rw [← HL.out, rescale_says, ← hav, ← hsa] at hq
    exact hq) : Calls Try.prog 9 #[.slice A n c, .int .i64 id, .int .i64 par] wx fun e w' => e = .returned (.tuple #[.agg (stV sa (.slice none 0 0) (.slice none 0 0)), .int .i64 av]) ∧ Fr wx.heap.size [] wx w'))
  have HMG := Lib.hid (fun (wx : World) (hx : Fr w.heap.size [] w wx) => ((migrate_any id tz Ag ng cg xs A c w.heap.size n M wx (H.out.frw hx (Nat.le_refl _) (by simp)) hx.size hsm hk (HR.out.fr hx (Nat.le_refl _) (by simp)) (by omega)).mono (fun e w' hq => by
    unfold MigOut at hq
    have hms := migrate_says L id tz xs
    rw [← HL.out] at hq
    rw [hms, ← hbv] at hq
    have hsb2 : (if migB (stepN L (mvS id (getN L id).par (mergeR (getN L id).rt xs tz))).1 (checkN L) tz (getN L id).par then zS else saidS (stepN L (mvS id (getN L id).par (mergeR (getN L id).rt xs tz))).1 (mvS id (getN L id).par (mergeR (getN L id).rt xs tz))) = sb := by
      rw [hsb]
      rw [← hbv] at hms
      by_cases hb : migB (stepN L (mvS id (getN L id).par (mergeR (getN L id).rt xs tz))).1 (checkN L) tz (getN L id).par = true
      · rw [if_pos hb] at hms ⊢
        rw [if_neg (by rw [← hms]; decide)]
      · rw [if_neg hb] at hms ⊢
        rw [hms]
        rfl
    rw [hsb2] at hq
    exact hq) : Calls Try.prog 10 #[.slice A n c, .int .i64 id, .int .i64 tz, .slice Ag ng cg] wx fun e w' => e = .returned (.tuple #[.agg (stV sb (.slice none 0 0) (.slice none 0 0)), .int .i64 bv]) ∧ Fr wx.heap.size [] wx w'))
  have HCV := Lib.hid hcv
  have HIV := Lib.hid hiv
  have HAV := Lib.hid hav
  have HBV := Lib.hid hbv
  have HSA := Lib.hid hsa
  have HSB := Lib.hid hsb
  clear hcv hiv hav hbv hsa hsb hsm hk hl20 hg60
  have a0 := BA2.out.cell 0
  have a1 := BA2.out.cell 1
  have a2 := BA2.out.cell 2
  simp at a0 a1 a2
  go_wp2_with fail
  go_quiet (fail)
  have F2q := Lib.hid (F2.out.drewN nq)
  clear a0 a1 a2 BA2
  have HC2 := Lib.hid (HCK.out _ F2q.out)
  clear HCK
  go_wp2_with fail
  refine HC2.out.mono ?_
  rintro e w3 ⟨rfl, f3⟩
  have F3 := Lib.hid (F2q.out.trans (f3.mono (B' := w.heap.size) (L' := []) F2q.out.size (by simp)))
  have HF3 := Lib.hid (HFX.out w3 F3.out)
  have HR3 := Lib.hid (HRS.out w3 F3.out)
  clear f3 HC2 F2 F2q HRS
  by_cases hcz : cv = 0
  case' neg => exact absurd HM.out (by unfold wantN; rw [if_pos (by rw [← HCV.out]; exact hcz)]; decide)
  subst hcz
  have hright : RightG L := checkN_zero.1 HCV.out.symm
  have HRT := Lib.hid hright
  have HCZ := Lib.hid HCV.out.symm
  rcases ixN_cases L id with ⟨hx1, hx2⟩ | ⟨k, x, hx1, hx2, hx3⟩
  case' inl => exact absurd ((want_none HCZ.out hx2).symm.trans HM.out) (by decide)
  rw [← HIV.out] at hx1
  subst hx1
  obtain ⟨hkn, b, off, hA, hb, p1, p4, p5⟩ := nds_at (H.out.frw F3.out (Nat.le_refl _) (by simp)) (by rw [← HL.out]; exact hx2)
  have hki : (k : Int) < (n : Int) := by omega
  have hk0 : (0 : Int) ≤ (k : Int) := by omega
  subst hA
  have HX2 := Lib.hid hx2
  have HX3 := Lib.hid hx3
  clear hx2 hx3 p5
  by_cases hkd : x.kind = 0
  case' pos => exact absurd ((want_src HCZ.out HX3.out hkd).symm.trans HM.out) (by decide)
  have hkb : (x.kind == 0) = false := by simp [hkd]
  have hw0 := want_ok HCZ.out HX3.out hkd
  have HGX := Lib.hid (getN_some HX3.out : getN L id = x)
  have HW0 := Lib.hid hw0
  have HA0 := Lib.hid (show av = if par < 1 ∨ 3 < par then 10 else 0 by rw [HAV.out]; unfold wantA; rw [hw0]; simp)
  have HB0 := Lib.hid (show bv = if tz < 0 ∨ x.par ≤ tz then 11 else 0 by rw [HBV.out]; unfold wantB; rw [hw0, HGX.out]; simp)
  clear hw0 hkd hright
  have HRP := Lib.hid (fun (wx : World) (hx : Fr w.heap.size [] w wx) (s : Stp) (h1 : s.nd.fr = []) (h2 : s.nd.pg = []) => (by
    have fb := (Fr.refl wx.heap.size [] wx).alloc (Nat.le_refl _) (.cells #[.int .i64 s.kind, .int .i64 s.nd.id, .int .i64 s.nd.kind, .slice none 0 0, .slice none 0 0, .int .i64 s.nd.par, .int .i64 (s.nd.rt 0), .int .i64 (s.nd.rt 1), .int .i64 (s.nd.rt 2), .int .i64 (s.nd.rt 3), .int .i64 (s.nd.rt 4), .int .i64 (s.nd.rt 5), .int .i64 (s.nd.rt 6), .int .i64 (s.nd.rt 7), .bool s.rs] 35)
    have fw := hx.trans (fb.mono (B' := w.heap.size) (L' := []) hx.size (by simp))
    have hst : Sts (wx.alloc (.cells #[.int .i64 s.kind, .int .i64 s.nd.id, .int .i64 s.nd.kind, .slice none 0 0, .slice none 0 0, .int .i64 s.nd.par, .int .i64 (s.nd.rt 0), .int .i64 (s.nd.rt 1), .int .i64 (s.nd.rt 2), .int .i64 (s.nd.rt 3), .int .i64 (s.nd.rt 4), .int .i64 (s.nd.rt 5), .int .i64 (s.nd.rt 6), .int .i64 (s.nd.rt 7), .bool s.rs] 35)) (wx.heap.size + 1) (some ⟨wx.heap.size, 0, none⟩) 1 [(s, .slice none 0 0, .slice none 0 0)] := ⟨rfl, by
      have := Reads.of_blk (size := 15) (m := 1) (Blk.new wx 35 #[.int .i64 s.kind, .int .i64 s.nd.id, .int .i64 s.nd.kind, .slice none 0 0, .slice none 0 0, .int .i64 s.nd.par, .int .i64 (s.nd.rt 0), .int .i64 (s.nd.rt 1), .int .i64 (s.nd.rt 2), .int .i64 (s.nd.rt 3), .int .i64 (s.nd.rt 4), .int .i64 (s.nd.rt 5), .int .i64 (s.nd.rt 6), .int .i64 (s.nd.rt 7), .bool s.rs]) rfl
      exact this, fun m hm => by
      rw [List.mem_singleton.1 hm]
      exact nd_bare _ _ _ h1 h2⟩
    have := rapply_any (some ⟨b, off, none⟩) (some ⟨wx.heap.size, 0, none⟩) c 1 (wx.heap.size + 1) n 1 M [(s, .slice none 0 0, .slice none 0 0)] (wx.alloc (.cells #[.int .i64 s.kind, .int .i64 s.nd.id, .int .i64 s.nd.kind, .slice none 0 0, .slice none 0 0, .int .i64 s.nd.par, .int .i64 (s.nd.rt 0), .int .i64 (s.nd.rt 1), .int .i64 (s.nd.rt 2), .int .i64 (s.nd.rt 3), .int .i64 (s.nd.rt 4), .int .i64 (s.nd.rt 5), .int .i64 (s.nd.rt 6), .int .i64 (s.nd.rt 7), .bool s.rs] 35)) ((H.out.frw fw (Nat.le_refl _) (by simp)).more (by have := hx.size; omega)) (by simp) HSM.out hst (fun m hm => by rw [List.mem_singleton.1 hm]; simp only; rw [h1, h2]; simp) (by omega) HCP.out hc (fun m hm A n c he => by rw [List.mem_singleton.1 hm] at he; injection he with _ h5 h6; omega)
    rw [← HL.out] at this
    exact this : Calls Try.prog 11 #[.slice (some ⟨b, off, none⟩) n c, .slice (some ⟨wx.heap.size, 0, none⟩) 1 1] (wx.alloc (.cells #[.int .i64 s.kind, .int .i64 s.nd.id, .int .i64 s.nd.kind, .slice none 0 0, .slice none 0 0, .int .i64 s.nd.par, .int .i64 (s.nd.rt 0), .int .i64 (s.nd.rt 1), .int .i64 (s.nd.rt 2), .int .i64 (s.nd.rt 3), .int .i64 (s.nd.rt 4), .int .i64 (s.nd.rt 5), .int .i64 (s.nd.rt 6), .int .i64 (s.nd.rt 7), .bool s.rs] 35)) (RApOut (applyR L [s]) (wx.alloc (.cells #[.int .i64 s.kind, .int .i64 s.nd.id, .int .i64 s.nd.kind, .slice none 0 0, .slice none 0 0, .int .i64 s.nd.par, .int .i64 (s.nd.rt 0), .int .i64 (s.nd.rt 1), .int .i64 (s.nd.rt 2), .int .i64 (s.nd.rt 3), .int .i64 (s.nd.rt 4), .int .i64 (s.nd.rt 5), .int .i64 (s.nd.rt 6), .int .i64 (s.nd.rt 7), .bool s.rs] 35)))))
  have HPB := Lib.hid (by rw [← HMB.out, HGX.out] : false = decide (tz < 0 ∨ x.par ≤ tz))
  have HP4 := Lib.hid p4
  clear p4 HMB
  go_wp2_with fail
  refine HF3.out.mono ?_
  rintro e w' ⟨rfl, rfl⟩
  clear HF3
  go_upto_region 16 with fail
  go_cut [74] (fun s wx => s = .bool true ∧ wx = w3)
  case first =>
    rcases of_decide_eq_true HPA.out.symm with c1 | c1
    · have c2 : par ≤ 3 := by omega
      go_wp2_with fail
      go_meet
      first | exact ⟨rfl, rfl⟩ | exact ⟨congrArg Value.bool (by simp; omega), rfl⟩
    · have c2 : 1 ≤ par := by omega
      go_wp2_with fail
      go_meet
      first | exact ⟨rfl, rfl⟩ | exact ⟨congrArg Value.bool (by simp; omega), rfl⟩
  case' rest =>
    obtain ⟨rfl, hw3⟩ := hcut
    subst hw3
    have p4 := HP4.out
  go_upto_region 18 with fail
  go_cut [89] (fun s wx => s = .bool false ∧ wx = wc)
  case first =>
    have c0 := of_decide_eq_false HPB.out.symm
    have c1 : 0 ≤ tz := by omega
    have c2 : tz < x.par := by omega
    clear c0
    go_wp2_with fail
    go_meet
    first | exact ⟨rfl, rfl⟩ | exact ⟨congrArg Value.bool (by simp; omega), rfl⟩
  case' rest =>
    obtain ⟨rfl, hw4⟩ := hcut
    subst hw4

  have hA : av = 10 := by rw [HA0.out, if_pos (of_decide_eq_true HPA.out.symm)]
  have hB : bv = 0 := by rw [HB0.out, if_neg (of_decide_eq_false HPB.out.symm)]
  subst hA hB
  have HSF := Lib.hid (show sb = mvS id x.par (mergeR x.rt xs tz) by rw [HSB.out, if_pos rfl, HGX.out])
  clear HSA HSB HA0 HB0
  go_wp2_with fail
  refine HR3.out.mono ?_
  rintro e w4 ⟨rfl, f4⟩
  have F4 := Lib.hid (F3.out.trans (f4.mono (B' := w.heap.size) (L' := []) F3.out.size (by simp)))
  clear f4 HR3
  have F4a := Lib.hid (F4.out.alloc F4.out.size (.cells #[.int .i64 sa.kind, .int .i64 sa.nd.id, .int .i64 sa.nd.kind, .slice none 0 0, .slice none 0 0, .int .i64 sa.nd.par, .int .i64 (sa.nd.rt 0), .int .i64 (sa.nd.rt 1), .int .i64 (sa.nd.rt 2), .int .i64 (sa.nd.rt 3), .int .i64 (sa.nd.rt 4), .int .i64 (sa.nd.rt 5), .int .i64 (sa.nd.rt 6), .int .i64 (sa.nd.rt 7), .bool sa.rs] 35))
  have BA4 := Lib.hid (Blk.new w4 35 #[.int .i64 sa.kind, .int .i64 sa.nd.id, .int .i64 sa.nd.kind, .slice none 0 0, .slice none 0 0, .int .i64 sa.nd.par, .int .i64 (sa.nd.rt 0), .int .i64 (sa.nd.rt 1), .int .i64 (sa.nd.rt 2), .int .i64 (sa.nd.rt 3), .int .i64 (sa.nd.rt 4), .int .i64 (sa.nd.rt 5), .int .i64 (sa.nd.rt 6), .int .i64 (sa.nd.rt 7), .bool sa.rs])
  have HM4 := Lib.hid (HMG.out _ F4a.out)
  go_wp2_with fail
  refine HM4.out.mono ?_
  rintro e w5 ⟨rfl, f5⟩
  have F5 := Lib.hid (F4a.out.trans (f5.mono (B' := w.heap.size) (L' := []) F4a.out.size (by simp)))
  have BA5 := Lib.hid ((BA4.out.fr f5 BA4.out.lt (by simp)).alloc (.cells #[.int .i64 sb.kind, .int .i64 sb.nd.id, .int .i64 sb.nd.kind, .slice none 0 0, .slice none 0 0, .int .i64 sb.nd.par, .int .i64 (sb.nd.rt 0), .int .i64 (sb.nd.rt 1), .int .i64 (sb.nd.rt 2), .int .i64 (sb.nd.rt 3), .int .i64 (sb.nd.rt 4), .int .i64 (sb.nd.rt 5), .int .i64 (sb.nd.rt 6), .int .i64 (sb.nd.rt 7), .bool sb.rs] 35))
  have BB5 := Lib.hid (Blk.new w5 35 #[.int .i64 sb.kind, .int .i64 sb.nd.id, .int .i64 sb.nd.kind, .slice none 0 0, .slice none 0 0, .int .i64 sb.nd.par, .int .i64 (sb.nd.rt 0), .int .i64 (sb.nd.rt 1), .int .i64 (sb.nd.rt 2), .int .i64 (sb.nd.rt 3), .int .i64 (sb.nd.rt 4), .int .i64 (sb.nd.rt 5), .int .i64 (sb.nd.rt 6), .int .i64 (sb.nd.rt 7), .bool sb.rs])
  have F6 := Lib.hid (F5.out.alloc F5.out.size (.cells #[.int .i64 sb.kind, .int .i64 sb.nd.id, .int .i64 sb.nd.kind, .slice none 0 0, .slice none 0 0, .int .i64 sb.nd.par, .int .i64 (sb.nd.rt 0), .int .i64 (sb.nd.rt 1), .int .i64 (sb.nd.rt 2), .int .i64 (sb.nd.rt 3), .int .i64 (sb.nd.rt 4), .int .i64 (sb.nd.rt 5), .int .i64 (sb.nd.rt 6), .int .i64 (sb.nd.rt 7), .bool sb.rs] 35))
  clear f5 HM4 HMG BA4 F4a
  go_upto_region 22 with fail
  generalize w5.alloc _ = w6 at *
  generalize w4.heap.size = gA at *
  generalize w5.heap.size = gB at *
  have k0 := BB5.out.cell 0
  have k1 := BB5.out.cell 1
  have k2 := BB5.out.cell 2
  have k3 := BB5.out.cell 3
  have k4 := BB5.out.cell 4
  have k5 := BB5.out.cell 5
  have k6 := BB5.out.cell 6
  have k7 := BB5.out.cell 7
  have k8 := BB5.out.cell 8
  have k9 := BB5.out.cell 9
  have k10 := BB5.out.cell 10
  have k11 := BB5.out.cell 11
  have k12 := BB5.out.cell 12
  have k13 := BB5.out.cell 13
  have k14 := BB5.out.cell 14
  simp at k0 k1 k2 k3 k4 k5 k6 k7 k8 k9 k10 k11 k12 k13 k14
  have hxk : x.kind ≠ 0 := by simpa using hkb
  have htz := of_decide_eq_false HPB.out.symm
  have h8 := own_right8 HRT.out (findN_mem HX3.out)
  have h8m : right8 x.par (mergeR x.rt xs tz) = true := merge_right h8 (by omega)
  have HMI := Lib.hid (fun j : Nat => merge_in (xs := xs) h8 (t := tz) (by omega) j)
  have hap := applyR_mv HRT.out HX3.out hxk h8m
  obtain ⟨R9, hR9⟩ : ∃ R, R = mergeR x.rt xs tz := ⟨_, rfl⟩
  rw [← hR9] at hap HSF HMI
  have hix : ixN (updN L id (rtN x.par R9)) id = (k : Int) := by rw [ix_upd (f := rtN x.par R9) (fun _ => rfl)]; exact HIV.out.symm
  have hat : (updN L id (rtN x.par R9))[k]? = some (rtN x.par R9 x) := upd_at HX2.out (findN_id HX3.out)
  have hAR : applyR L [sb] = (0, 0, updN L id (rtN x.par R9)) := by rw [HSF.out]; exact hap
  have HQB := Lib.hid (HRP.out w6 F6.out sb (by rw [HSF.out]; rfl) (by rw [HSF.out]; rfl))
  rw [hAR] at HQB
  have HIX9 := Lib.hid hix
  have HAT9 := Lib.hid hat
  have HAPB := Lib.hid hap
  clear hap hix hat hAR hxk htz h8 h8m hR9 HRP
  go_wp2_with fail
  refine HQB.out.mono ?_
  intro e w9 hq
  obtain ⟨A9, c9, n9, M9, rfl, f9, hn9, hf9⟩ := rap_uni (L := L) (p := [mvS id x.par R9]) HAPB.out.symm rfl hq
  have F9 := Lib.hid ((F6.out.alloc F6.out.size _).trans (f9.mono (B' := w.heap.size) (L' := []) (F6.out.alloc F6.out.size _).size (by simp)))
  have hl9 : M9.length ≤ 8 := by
    have h1 := congrArg List.length hf9
    simp only [fstN, updN, List.length_map] at h1
    have := HRT.out.len
    omega
  have hn98 : n9 ≤ 8 := by rw [hn9.num]; exact hl9
  have HF9 := Lib.hid (by have := rfind_any id A9 c9 w9.heap.size n9 M9 w9 hn9 (by omega); rw [hf9, HIX9.out] at this; exact this : Calls Try.prog 8 #[.slice A9 n9 c9, .int .i64 id] w9 fun e w' => e = .returned (.int .i64 (k : Int)) ∧ w9 = w')
  obtain ⟨hkn9, b9, off9, hA9, hb9, r1, r4, r5⟩ := nds_at hn9 (by rw [hf9]; exact HAT9.out)
  subst hA9
  have hki9 : (k : Int) < (n9 : Int) := by omega
  simp only [rtN] at r4 r5
  have R5 := Lib.hid r5
  obtain ⟨_, b0, off0, he0, _, _, s4, s5⟩ := nds_at (H.out.frw F9.out (Nat.le_refl _) (by simp)) (by rw [← HL.out]; exact HX2.out)
  injection he0 with he0
  injection he0 with he1 he2
  subst he1 he2
  have S5 := Lib.hid s5
  clear f9 hq HQB hn9 hf9 r1 r5 s5 k0 k1 k2 k3 k4 k5 k6 k7 k8 k9 k10 k11 k12 k13 k14
  go_wp2_with fail
  refine HF9.out.mono ?_
  rintro e w' ⟨rfl, rfl⟩
  clear HF9
  have hpp : (x.par != x.par) = false := by simp
  go_wp2_with fail
  go_quiet (fail)
  go_wp2_with fail
  have FQ := Lib.hid (F9.out.drewN nq)
  have CL := Lib.hid (fun (j : Nat) (hj : j < 8) => (⟨R5.out j hj, S5.out j hj⟩ : (w9.drewN nq).cell? ⟨b9, off9 + k * 13 + 5 + j, none⟩ = some (.int .i64 (R9 j)) ∧ (w9.drewN nq).cell? ⟨b, off + k * 13 + 5 + j, none⟩ = some (.int .i64 (x.rt j))))
  have HRQ := Lib.hid (HR.out.fr FQ.out (Nat.le_refl _) (by simp))
  generalize w9.drewN _ = wq at *
  go_loopg [27, 28] 8 (fun g s27 s28 wr => ∃ j : Nat, j ≤ 8 ∧ g = 8 - j ∧ s27 = .int .i64 j ∧ wr = wq)
  case atStart => exact ⟨0, by omega, rfl, rfl, rfl⟩
  case round =>
    obtain ⟨j, hj, rfl, rfl, rfl⟩ := hrel
    by_cases hj8 : j < 8
    · have hji : (j : Int) < 8 := by omega
      have hj0 : (0 : Int) ≤ (j : Int) := by omega
      obtain ⟨c1, c2⟩ := CL.out j hj8
      have hmi := HMI.out j
      have HH := Lib.hid (rhas_any (j : Int) Ag cg w.heap.size ng xs wr HNX.out (by omega) HRQ.out)
      rcases Bool.eq_false_or_eq_true (hasI xs j) with hb1 | hb1
      · rw [if_pos hb1] at hmi
        rw [hmi] at c1
        rw [hb1] at HH
        have hn1 : (tz != tz) = false := by simp
        clear hmi hb1
        go_wp2_with fail
        refine HH.out.mono ?_
        rintro e w' ⟨rfl, rfl⟩
        go_wp2_with fail
        go_roundg (8 - (j + 1))
        case measure => omega
        case rel => exact ⟨j + 1, by omega, rfl, by go_num, rfl⟩
      · rw [if_neg (by rw [hb1]; simp)] at hmi
        rw [hmi] at c1
        rw [hb1] at HH
        have hn1 : (x.rt j != x.rt j) = false := by simp
        clear hmi hb1
        go_wp2_with fail
        refine HH.out.mono ?_
        rintro e w' ⟨rfl, rfl⟩
        go_wp2_with fail
        go_roundg (8 - (j + 1))
        case measure => omega
        case rel => exact ⟨j + 1, by omega, rfl, by go_num, rfl⟩
    · obtain rfl : j = 8 := by omega
      go_wp2_with fail
      go_ret
      exact ⟨rfl, FQ.out.below⟩

set_option maxRecDepth 100000 in
set_option maxHeartbeats 32000000 in
theorem pbu_tt (A : Option Addr) (n c : Nat) (M : List Ndm) (hc : n ≤ c) (hm : c ≤ maxLen) (id par tz : Int) (Ag : Option Addr) (ng cg : Nat) (xs : List Int) (hcg : ng ≤ cg) (hmg : cg ≤ maxLen) (hng : ng = xs.length) (w : World) (h : Nds w w.heap.size A n M) (hcap : CapN M) (hg : Reads w w.heap.size 1 Ag ng (xs.map (Value.int .i64))) (hM : wantN (fstN M) id = 0) (hMA : decide (par < 1 ∨ 3 < par) = true) (hMB : decide (tz < 0 ∨ (getN (fstN M) id).par ≤ tz) = true) :
    Calls Try.prog 3 #[.slice A n c, .agg #[.int .i64 id, .int .i64 par, .int .i64 tz], .slice Ag ng cg] w fun e w' => e = .returned (.bool true) ∧ Below w.heap.size w w' := by
  obtain ⟨L, hL⟩ : ∃ L, L = fstN M := ⟨_, rfl⟩
  obtain ⟨gv, hgv⟩ : ∃ v, v = greatP L [] := ⟨_, rfl⟩
  obtain ⟨ga, hga⟩ : ∃ g, g = w.heap.size := ⟨_, rfl⟩
  have fa := (Fr.refl w.heap.size [] w).alloc (Nat.le_refl _) (.cells #[.int .i64 id, .int .i64 par, .int .i64 tz] 23)
  have FA := Lib.hid fa
  have BA := Lib.hid (by rw [hga]; exact Blk.new w 23 #[.int .i64 id, .int .i64 par, .int .i64 tz] : Blk (w.alloc (.cells #[.int .i64 id, .int .i64 par, .int .i64 tz] 23)) ga 23 #[.int .i64 id, .int .i64 par, .int .i64 tz])
  obtain ⟨w0, hw0⟩ : ∃ w0, w0 = w.alloc (.cells #[.int .i64 id, .int .i64 par, .int .i64 tz] 23) := ⟨_, rfl⟩
  rw [← hw0] at FA BA
  have HA := Lib.hid (awake10_any w0)
  have HG := Lib.hid (fun (wx : World) (hx : Fr w.heap.size [] w wx) => (by rw [hgv, hL]; exact great10_any A none c 0 w.heap.size n 0 M [] wx (h.frw hx (Nat.le_refl _) (by simp)) hx.size (by omega) ⟨rfl, Reads.none_, by simp⟩ (by simp [maxLen]) : Calls Try.prog 6 #[.slice A n c, .slice none 0 0] wx fun e w' => e = .returned (.bool gv) ∧ Fr wx.heap.size [] wx w'))
  have HM := Lib.hid (by rw [hL]; exact hM : wantN L id = 0)
  have HMB := Lib.hid (by rw [hL]; exact hMB : decide (tz < 0 ∨ (getN L id).par ≤ tz) = true)
  have HPA := Lib.hid hMA.symm
  clear hM hMA hMB
  have HL := Lib.hid hL
  have HGV := Lib.hid hgv
  have HGA := Lib.hid hga
  have H := Lib.hid h
  have HR := Lib.hid hg
  have HCP := Lib.hid hcap
  have HNX := Lib.hid hng
  have HW0 := Lib.hid hw0
  clear hL hgv h hcap hg hng fa hga hw0
  unfold maxLen at hm hmg
  go_enter Try.func3, Try.ntmps3
  go_upto_region 1 with fail
  rw [← HW0.out, ← HGA.out]
  go_wp2_with fail
  refine HA.out.mono ?_
  rintro e w1 ⟨rfl, f1⟩
  have F1 := Lib.hid (FA.out.trans (f1.mono (B' := w.heap.size) (L' := []) FA.out.size (by simp)))
  have BA1 := Lib.hid (BA.out.fr f1 BA.out.lt (by simp))
  have HG1 := Lib.hid (HG.out w1 F1.out)
  clear f1 HA HG FA BA
  go_wp2_with fail
  refine HG1.out.mono ?_
  rintro e w2 ⟨rfl, f2⟩
  have F2 := Lib.hid (F1.out.trans (f2.mono (B' := w.heap.size) (L' := []) F1.out.size (by simp)))
  have BA2 := Lib.hid (BA1.out.fr f2 BA1.out.lt (by simp))
  clear f2 HG1 F1 BA1
  cases gv with
  | true =>
    go_wp2_with fail
    go_ret
    exact ⟨rfl, F2.out.below⟩
  | false => ?_
  by_cases hg60 : 60 < ng
  · have hg60i : (60 : Int) < (ng : Int) := by omega
    go_wp2_with fail
    go_ret
    exact ⟨rfl, F2.out.below⟩
  have hg60i : (ng : Int) ≤ 60 := by omega
  obtain ⟨hl20, hsm, hk, _, _⟩ := greatP_no (S := []) (by rw [← HL.out]; exact HGV.out.symm)
  have HSM := Lib.hid hsm
  have HK := Lib.hid hk
  have hn20 : n ≤ 20 := by have := H.out.num; omega
  obtain ⟨cv, hcv⟩ : ∃ v, v = checkN L := ⟨_, rfl⟩
  obtain ⟨iv, hiv⟩ : ∃ v, v = ixN L id := ⟨_, rfl⟩
  obtain ⟨av, hav⟩ : ∃ v, v = wantA L id par := ⟨_, rfl⟩
  obtain ⟨bv, hbv⟩ : ∃ v, v = wantB L id tz := ⟨_, rfl⟩
  have HCK := Lib.hid (fun (wx : World) (hx : Fr w.heap.size [] w wx) => (by rw [hcv, HL.out]; exact rcheck_any A c w.heap.size n M wx (H.out.frw hx (Nat.le_refl _) (by simp)) hx.size hsm HCP.out : Calls Try.prog 7 #[.slice A n c] wx fun e w' => e = .returned (.int .i64 cv) ∧ Fr wx.heap.size [] wx w'))
  have HFX := Lib.hid (fun (wx : World) (hx : Fr w.heap.size [] w wx) => (by rw [hiv, HL.out]; exact rfind_any id A c w.heap.size n M wx (H.out.frw hx (Nat.le_refl _) (by simp)) (by omega) : Calls Try.prog 8 #[.slice A n c, .int .i64 id] wx fun e w' => e = .returned (.int .i64 iv) ∧ wx = w'))
  obtain ⟨sa, hsa⟩ : ∃ s, s = saidS av (mvS id par (evenR par)) := ⟨_, rfl⟩
  obtain ⟨sb, hsb⟩ : ∃ s, s = (if bv = 0 then mvS id (getN L id).par (mergeR (getN L id).rt xs tz) else zS) := ⟨_, rfl⟩
  have HRS := Lib.hid (fun (wx : World) (hx : Fr w.heap.size [] w wx) => ((rescale_any id par A c w.heap.size n M wx (H.out.frw hx (Nat.le_refl _) (by simp)) hx.size hsm hk).mono (fun e w' hq => by
    unfold TriedOut at hq
    rw [← HL.out, rescale_says, ← hav, ← hsa] at hq
    exact hq) : Calls Try.prog 9 #[.slice A n c, .int .i64 id, .int .i64 par] wx fun e w' => e = .returned (.tuple #[.agg (stV sa (.slice none 0 0) (.slice none 0 0)), .int .i64 av]) ∧ Fr wx.heap.size [] wx w'))
  have HMG := Lib.hid (fun (wx : World) (hx : Fr w.heap.size [] w wx) => ((migrate_any id tz Ag ng cg xs A c w.heap.size n M wx (H.out.frw hx (Nat.le_refl _) (by simp)) hx.size hsm hk (HR.out.fr hx (Nat.le_refl _) (by simp)) (by omega)).mono (fun e w' hq => by
    unfold MigOut at hq
    have hms := migrate_says L id tz xs
    rw [← HL.out] at hq
    rw [hms, ← hbv] at hq
    have hsb2 : (if migB (stepN L (mvS id (getN L id).par (mergeR (getN L id).rt xs tz))).1 (checkN L) tz (getN L id).par then zS else saidS (stepN L (mvS id (getN L id).par (mergeR (getN L id).rt xs tz))).1 (mvS id (getN L id).par (mergeR (getN L id).rt xs tz))) = sb := by
      rw [hsb]
      rw [← hbv] at hms
      by_cases hb : migB (stepN L (mvS id (getN L id).par (mergeR (getN L id).rt xs tz))).1 (checkN L) tz (getN L id).par = true
      · rw [if_pos hb] at hms ⊢
        rw [if_neg (by rw [← hms]; decide)]
      · rw [if_neg hb] at hms ⊢
        rw [hms]
        rfl
    rw [hsb2] at hq
    exact hq) : Calls Try.prog 10 #[.slice A n c, .int .i64 id, .int .i64 tz, .slice Ag ng cg] wx fun e w' => e = .returned (.tuple #[.agg (stV sb (.slice none 0 0) (.slice none 0 0)), .int .i64 bv]) ∧ Fr wx.heap.size [] wx w'))
  have HCV := Lib.hid hcv
  have HIV := Lib.hid hiv
  have HAV := Lib.hid hav
  have HBV := Lib.hid hbv
  have HSA := Lib.hid hsa
  have HSB := Lib.hid hsb
  clear hcv hiv hav hbv hsa hsb hsm hk hl20 hg60
  have a0 := BA2.out.cell 0
  have a1 := BA2.out.cell 1
  have a2 := BA2.out.cell 2
  simp at a0 a1 a2
  go_wp2_with fail
  go_quiet (fail)
  have F2q := Lib.hid (F2.out.drewN nq)
  clear a0 a1 a2 BA2
  have HC2 := Lib.hid (HCK.out _ F2q.out)
  clear HCK
  go_wp2_with fail
  refine HC2.out.mono ?_
  rintro e w3 ⟨rfl, f3⟩
  have F3 := Lib.hid (F2q.out.trans (f3.mono (B' := w.heap.size) (L' := []) F2q.out.size (by simp)))
  have HF3 := Lib.hid (HFX.out w3 F3.out)
  have HR3 := Lib.hid (HRS.out w3 F3.out)
  clear f3 HC2 F2 F2q HRS
  by_cases hcz : cv = 0
  case' neg => exact absurd HM.out (by unfold wantN; rw [if_pos (by rw [← HCV.out]; exact hcz)]; decide)
  subst hcz
  have hright : RightG L := checkN_zero.1 HCV.out.symm
  have HRT := Lib.hid hright
  have HCZ := Lib.hid HCV.out.symm
  rcases ixN_cases L id with ⟨hx1, hx2⟩ | ⟨k, x, hx1, hx2, hx3⟩
  case' inl => exact absurd ((want_none HCZ.out hx2).symm.trans HM.out) (by decide)
  rw [← HIV.out] at hx1
  subst hx1
  obtain ⟨hkn, b, off, hA, hb, p1, p4, p5⟩ := nds_at (H.out.frw F3.out (Nat.le_refl _) (by simp)) (by rw [← HL.out]; exact hx2)
  have hki : (k : Int) < (n : Int) := by omega
  have hk0 : (0 : Int) ≤ (k : Int) := by omega
  subst hA
  have HX2 := Lib.hid hx2
  have HX3 := Lib.hid hx3
  clear hx2 hx3 p5
  by_cases hkd : x.kind = 0
  case' pos => exact absurd ((want_src HCZ.out HX3.out hkd).symm.trans HM.out) (by decide)
  have hkb : (x.kind == 0) = false := by simp [hkd]
  have hw0 := want_ok HCZ.out HX3.out hkd
  have HGX := Lib.hid (getN_some HX3.out : getN L id = x)
  have HW0 := Lib.hid hw0
  have HA0 := Lib.hid (show av = if par < 1 ∨ 3 < par then 10 else 0 by rw [HAV.out]; unfold wantA; rw [hw0]; simp)
  have HB0 := Lib.hid (show bv = if tz < 0 ∨ x.par ≤ tz then 11 else 0 by rw [HBV.out]; unfold wantB; rw [hw0, HGX.out]; simp)
  clear hw0 hkd hright
  have HRP := Lib.hid (fun (wx : World) (hx : Fr w.heap.size [] w wx) (s : Stp) (h1 : s.nd.fr = []) (h2 : s.nd.pg = []) => (by
    have fb := (Fr.refl wx.heap.size [] wx).alloc (Nat.le_refl _) (.cells #[.int .i64 s.kind, .int .i64 s.nd.id, .int .i64 s.nd.kind, .slice none 0 0, .slice none 0 0, .int .i64 s.nd.par, .int .i64 (s.nd.rt 0), .int .i64 (s.nd.rt 1), .int .i64 (s.nd.rt 2), .int .i64 (s.nd.rt 3), .int .i64 (s.nd.rt 4), .int .i64 (s.nd.rt 5), .int .i64 (s.nd.rt 6), .int .i64 (s.nd.rt 7), .bool s.rs] 35)
    have fw := hx.trans (fb.mono (B' := w.heap.size) (L' := []) hx.size (by simp))
    have hst : Sts (wx.alloc (.cells #[.int .i64 s.kind, .int .i64 s.nd.id, .int .i64 s.nd.kind, .slice none 0 0, .slice none 0 0, .int .i64 s.nd.par, .int .i64 (s.nd.rt 0), .int .i64 (s.nd.rt 1), .int .i64 (s.nd.rt 2), .int .i64 (s.nd.rt 3), .int .i64 (s.nd.rt 4), .int .i64 (s.nd.rt 5), .int .i64 (s.nd.rt 6), .int .i64 (s.nd.rt 7), .bool s.rs] 35)) (wx.heap.size + 1) (some ⟨wx.heap.size, 0, none⟩) 1 [(s, .slice none 0 0, .slice none 0 0)] := ⟨rfl, by
      have := Reads.of_blk (size := 15) (m := 1) (Blk.new wx 35 #[.int .i64 s.kind, .int .i64 s.nd.id, .int .i64 s.nd.kind, .slice none 0 0, .slice none 0 0, .int .i64 s.nd.par, .int .i64 (s.nd.rt 0), .int .i64 (s.nd.rt 1), .int .i64 (s.nd.rt 2), .int .i64 (s.nd.rt 3), .int .i64 (s.nd.rt 4), .int .i64 (s.nd.rt 5), .int .i64 (s.nd.rt 6), .int .i64 (s.nd.rt 7), .bool s.rs]) rfl
      exact this, fun m hm => by
      rw [List.mem_singleton.1 hm]
      exact nd_bare _ _ _ h1 h2⟩
    have := rapply_any (some ⟨b, off, none⟩) (some ⟨wx.heap.size, 0, none⟩) c 1 (wx.heap.size + 1) n 1 M [(s, .slice none 0 0, .slice none 0 0)] (wx.alloc (.cells #[.int .i64 s.kind, .int .i64 s.nd.id, .int .i64 s.nd.kind, .slice none 0 0, .slice none 0 0, .int .i64 s.nd.par, .int .i64 (s.nd.rt 0), .int .i64 (s.nd.rt 1), .int .i64 (s.nd.rt 2), .int .i64 (s.nd.rt 3), .int .i64 (s.nd.rt 4), .int .i64 (s.nd.rt 5), .int .i64 (s.nd.rt 6), .int .i64 (s.nd.rt 7), .bool s.rs] 35)) ((H.out.frw fw (Nat.le_refl _) (by simp)).more (by have := hx.size; omega)) (by simp) HSM.out hst (fun m hm => by rw [List.mem_singleton.1 hm]; simp only; rw [h1, h2]; simp) (by omega) HCP.out hc (fun m hm A n c he => by rw [List.mem_singleton.1 hm] at he; injection he with _ h5 h6; omega)
    rw [← HL.out] at this
    exact this : Calls Try.prog 11 #[.slice (some ⟨b, off, none⟩) n c, .slice (some ⟨wx.heap.size, 0, none⟩) 1 1] (wx.alloc (.cells #[.int .i64 s.kind, .int .i64 s.nd.id, .int .i64 s.nd.kind, .slice none 0 0, .slice none 0 0, .int .i64 s.nd.par, .int .i64 (s.nd.rt 0), .int .i64 (s.nd.rt 1), .int .i64 (s.nd.rt 2), .int .i64 (s.nd.rt 3), .int .i64 (s.nd.rt 4), .int .i64 (s.nd.rt 5), .int .i64 (s.nd.rt 6), .int .i64 (s.nd.rt 7), .bool s.rs] 35)) (RApOut (applyR L [s]) (wx.alloc (.cells #[.int .i64 s.kind, .int .i64 s.nd.id, .int .i64 s.nd.kind, .slice none 0 0, .slice none 0 0, .int .i64 s.nd.par, .int .i64 (s.nd.rt 0), .int .i64 (s.nd.rt 1), .int .i64 (s.nd.rt 2), .int .i64 (s.nd.rt 3), .int .i64 (s.nd.rt 4), .int .i64 (s.nd.rt 5), .int .i64 (s.nd.rt 6), .int .i64 (s.nd.rt 7), .bool s.rs] 35)))))
  have HPB := Lib.hid (by rw [← HMB.out, HGX.out] : true = decide (tz < 0 ∨ x.par ≤ tz))
  have HP4 := Lib.hid p4
  clear p4 HMB
  go_wp2_with fail
  refine HF3.out.mono ?_
  rintro e w' ⟨rfl, rfl⟩
  clear HF3
  go_upto_region 16 with fail
  go_cut [74] (fun s wx => s = .bool true ∧ wx = w3)
  case first =>
    rcases of_decide_eq_true HPA.out.symm with c1 | c1
    · have c2 : par ≤ 3 := by omega
      go_wp2_with fail
      go_meet
      first | exact ⟨rfl, rfl⟩ | exact ⟨congrArg Value.bool (by simp; omega), rfl⟩
    · have c2 : 1 ≤ par := by omega
      go_wp2_with fail
      go_meet
      first | exact ⟨rfl, rfl⟩ | exact ⟨congrArg Value.bool (by simp; omega), rfl⟩
  case' rest =>
    obtain ⟨rfl, hw3⟩ := hcut
    subst hw3
    have p4 := HP4.out
  go_upto_region 18 with fail
  go_cut [89] (fun s wx => s = .bool true ∧ wx = wc)
  case first =>
    rcases of_decide_eq_true HPB.out.symm with c1 | c1
    · go_wp2_with fail
      go_meet
      first | exact ⟨rfl, rfl⟩ | exact ⟨congrArg Value.bool (by simp; omega), rfl⟩
    · by_cases c0 : tz < 0
      · go_wp2_with fail
        go_meet
        first | exact ⟨rfl, rfl⟩ | exact ⟨congrArg Value.bool (by simp; omega), rfl⟩
      · have c2 : 0 ≤ tz := by omega
        go_wp2_with fail
        go_meet
        first | exact ⟨rfl, rfl⟩ | exact ⟨congrArg Value.bool (by simp; omega), rfl⟩
  case' rest =>
    obtain ⟨rfl, hw4⟩ := hcut
    subst hw4

  have hA : av = 10 := by rw [HA0.out, if_pos (of_decide_eq_true HPA.out.symm)]
  have hB : bv = 11 := by rw [HB0.out, if_pos (of_decide_eq_true HPB.out.symm)]
  subst hA hB
  clear HSA HSB HA0 HB0
  go_wp2_with fail
  refine HR3.out.mono ?_
  rintro e w4 ⟨rfl, f4⟩
  have F4 := Lib.hid (F3.out.trans (f4.mono (B' := w.heap.size) (L' := []) F3.out.size (by simp)))
  clear f4 HR3
  have F4a := Lib.hid (F4.out.alloc F4.out.size (.cells #[.int .i64 sa.kind, .int .i64 sa.nd.id, .int .i64 sa.nd.kind, .slice none 0 0, .slice none 0 0, .int .i64 sa.nd.par, .int .i64 (sa.nd.rt 0), .int .i64 (sa.nd.rt 1), .int .i64 (sa.nd.rt 2), .int .i64 (sa.nd.rt 3), .int .i64 (sa.nd.rt 4), .int .i64 (sa.nd.rt 5), .int .i64 (sa.nd.rt 6), .int .i64 (sa.nd.rt 7), .bool sa.rs] 35))
  have BA4 := Lib.hid (Blk.new w4 35 #[.int .i64 sa.kind, .int .i64 sa.nd.id, .int .i64 sa.nd.kind, .slice none 0 0, .slice none 0 0, .int .i64 sa.nd.par, .int .i64 (sa.nd.rt 0), .int .i64 (sa.nd.rt 1), .int .i64 (sa.nd.rt 2), .int .i64 (sa.nd.rt 3), .int .i64 (sa.nd.rt 4), .int .i64 (sa.nd.rt 5), .int .i64 (sa.nd.rt 6), .int .i64 (sa.nd.rt 7), .bool sa.rs])
  have HM4 := Lib.hid (HMG.out _ F4a.out)
  go_wp2_with fail
  refine HM4.out.mono ?_
  rintro e w5 ⟨rfl, f5⟩
  have F5 := Lib.hid (F4a.out.trans (f5.mono (B' := w.heap.size) (L' := []) F4a.out.size (by simp)))
  have BA5 := Lib.hid ((BA4.out.fr f5 BA4.out.lt (by simp)).alloc (.cells #[.int .i64 sb.kind, .int .i64 sb.nd.id, .int .i64 sb.nd.kind, .slice none 0 0, .slice none 0 0, .int .i64 sb.nd.par, .int .i64 (sb.nd.rt 0), .int .i64 (sb.nd.rt 1), .int .i64 (sb.nd.rt 2), .int .i64 (sb.nd.rt 3), .int .i64 (sb.nd.rt 4), .int .i64 (sb.nd.rt 5), .int .i64 (sb.nd.rt 6), .int .i64 (sb.nd.rt 7), .bool sb.rs] 35))
  have BB5 := Lib.hid (Blk.new w5 35 #[.int .i64 sb.kind, .int .i64 sb.nd.id, .int .i64 sb.nd.kind, .slice none 0 0, .slice none 0 0, .int .i64 sb.nd.par, .int .i64 (sb.nd.rt 0), .int .i64 (sb.nd.rt 1), .int .i64 (sb.nd.rt 2), .int .i64 (sb.nd.rt 3), .int .i64 (sb.nd.rt 4), .int .i64 (sb.nd.rt 5), .int .i64 (sb.nd.rt 6), .int .i64 (sb.nd.rt 7), .bool sb.rs])
  have F6 := Lib.hid (F5.out.alloc F5.out.size (.cells #[.int .i64 sb.kind, .int .i64 sb.nd.id, .int .i64 sb.nd.kind, .slice none 0 0, .slice none 0 0, .int .i64 sb.nd.par, .int .i64 (sb.nd.rt 0), .int .i64 (sb.nd.rt 1), .int .i64 (sb.nd.rt 2), .int .i64 (sb.nd.rt 3), .int .i64 (sb.nd.rt 4), .int .i64 (sb.nd.rt 5), .int .i64 (sb.nd.rt 6), .int .i64 (sb.nd.rt 7), .bool sb.rs] 35))
  clear f5 HM4 HMG BA4 F4a
  go_wp2_with fail
  go_ret
  exact ⟨rfl, F6.out.below⟩

/-- The walk. -/
theorem walk_PlanBuilds (A : Option Addr) (n c : Nat) (M : List Ndm) (hc : n ≤ c) (hm : c ≤ maxLen) (id par tz : Int) (Ag : Option Addr) (ng cg : Nat) (xs : List Int) (hcg : ng ≤ cg) (hmg : cg ≤ maxLen) (hng : ng = xs.length) (w : World) (h : Nds w w.heap.size A n M) (hcap : CapN M) (hg : Reads w w.heap.size 1 Ag ng (xs.map (Value.int .i64))) :
    Calls Try.prog 3 #[.slice A n c, .agg #[.int .i64 id, .int .i64 par, .int .i64 tz], .slice Ag ng cg] w fun e w' => e = .returned (.bool true) ∧ Below w.heap.size w w' := by
  by_cases hM : wantN (fstN M) id = 0
  · cases ha : decide (par < 1 ∨ 3 < par) <;> cases hb : decide (tz < 0 ∨ (getN (fstN M) id).par ≤ tz)
    · exact pbu_ff A n c M hc hm id par tz Ag ng cg xs hcg hmg hng w h hcap hg hM ha hb
    · exact pbu_ft A n c M hc hm id par tz Ag ng cg xs hcg hmg hng w h hcap hg hM ha hb
    · exact pbu_tf A n c M hc hm id par tz Ag ng cg xs hcg hmg hng w h hcap hg hM ha hb
    · exact pbu_tt A n c M hc hm id par tz Ag ng cg xs hcg hmg hng w h hcap hg hM ha hb
  · exact pbu_bad A n c M hc hm id par tz Ag ng cg xs hcg hmg hng w h hcap hg hM

end Go.Proofs.Ythncfkpamokomaa
namespace Go.Proofs.Ythncfkpamokomaa
open Go.ChangeShapes Go.WideShapes Go.ChangeAt Go.RowKit Go.Fb
set_option linter.unusedVariables false

set_option maxRecDepth 100000 in
theorem lifted_PlanBuilds (os : Os) (started : os.Started) (H : Type) (enc : TypeId × Value → H) :
    ReturnsInHanded {} Try.checked os 3 .any (Rows.planBuildsSpec.pre6 enc Try.prog Try.f3 Rows.planBuildsRow.domain false) (Rows.planBuildsSpec.post enc Try.prog Try.f3 false true false false) := by
  refine returnsInHanded_of_change (C := Try.checked) (show ownKnob Try.prog.godebug = none by kernel_rfl) started (by kernel_rfl) Try.func3
    (ChangeSpec.witness6 (enc := enc) (C := Try.checked) false ⟨#[], #[.slice none 0 0, .agg #[.int .i64 0, .int .i64 0, .int .i64 0], .slice none 0 0], []⟩ 8 (by kernel_rfl) (by kernel_rfl) (by kernel_rfl) (by kernel_rfl)) ?_
  intro W base args ds gs before hval0 hW hcnd _
  have hval : ∀ (j : Nat) t v, Try.f3.params[j]? = some t → args[j]? = some v → Value.okWide Try.prog W .any base t v := hval0
  have hW' := hW
  obtain ⟨p, q, hA0, hV, rfl, hfz, hnd⟩ := hW
  have hA : DataW.TrodAll enc Try.prog W 0 (fun _ => true) true Try.f3.params.toList args.toList ds p := hA0
  rw [Try.params3] at hA hval
  obtain ⟨v0, vs0, d0, ds0, p0, q0, hargs, rfl, rfl, h0, r0'⟩ := trodAll_cons hA
  obtain ⟨v1, vs1, d1, ds1, p1, q1, rfl, rfl, rfl, h1, r1'⟩ := trodAll_cons r0'
  obtain ⟨v2, vs2, d2, ds2, p2, q2, rfl, rfl, rfl, h2, r2'⟩ := trodAll_cons r1'
  obtain ⟨rfl, rfl, rfl⟩ := trodAll_nil r2'
  obtain rfl : args = #[v0, v1, v2] := by cases args; simp_all
  obtain ⟨rfl, rfl⟩ := trodVars_none hV
  have k0 := h0
  have lt0 : ∀ x ∈ p0, x.block < W.heap.size := by obtain ⟨m, hm⟩ := k0; exact DataW.trod_lt m _ _ _ hm
  have k1 := h1
  have lt1 : ∀ x ∈ p1, x.block < W.heap.size := by obtain ⟨m, hm⟩ := k1; exact DataW.trod_lt m _ _ _ hm
  have k2 := h2
  have lt2 : ∀ x ∈ p2, x.block < W.heap.size := by obtain ⟨m, hm⟩ := k2; exact DataW.trod_lt m _ _ _ hm
  obtain ⟨A0, n0, c0, M0, rfl, l0, m0, r0, wf0⟩ := arg_nodes (hval 0 22 v0 rfl rfl) h0
  obtain ⟨f1, rfl, w1⟩ := agg_ints (e := 3) (n := 3) Try.underlying23 rfl Try.underlying3 (by kernel_rfl) (by kernel_rfl) (hval 1 23 v1 rfl rfl)
  obtain ⟨A2, n2, c2, x2, rfl, l2, m2, r2, w2⟩ := arg_ints Try.underlying24 Try.underlying3 (by kernel_rfl) (hval 2 24 v2 rfl rfl) h2
  clear hA0 hval0
  refine (walk_PlanBuilds A0 n0 c0 M0 l0 m0 (f1 0) (f1 1) (f1 2) A2 n2 c2 x2 l2 m2 (by have := r2.1; simp at this; omega) W r0 wf0.cap r2).mono fun e W' ⟨he, bel⟩ => ?_
  subst he
  exact ⟨_, rfl, _, _, _, [], _, [], hW', trodAll_mk1 (shut_bool Try.underlying4 _), (trodAll_cons_mk (Below.trod (show laidOutB Try.prog = true by kernel_rfl) (by kernel_rfl) (of_decide_eq_true (by kernel_rfl)) k0 bel lt0) (trodAll_cons_mk (Below.trod (show laidOutB Try.prog = true by kernel_rfl) (by kernel_rfl) (of_decide_eq_true (by kernel_rfl)) k1 bel lt1) (trodAll_cons_mk (Below.trod (show laidOutB Try.prog = true by kernel_rfl) (by kernel_rfl) (of_decide_eq_true (by kernel_rfl)) k2 bel lt2) trodAll_mk0))), rfl, bel.frame _, fun h => by cases h⟩

theorem PlanBuilds_holds : Rows.PlanBuildsSaid :=
  OpenClaim.holds_of_wide 3 Try.f3 rfl rfl rfl rfl rfl rfl rfl ⟨rfl, rfl, rfl, rfl, rfl⟩ rfl rfl rfl rfl rfl (by kernel_rfl) Try.func3 (by kernel_rfl)
    (of_decide_eq_true (by kernel_rfl)) (by unfold Func.isWrapper; first | (rw [if_pos (by decide +kernel)]; kernel_rfl) | (rw [if_neg (by decide +kernel)]; exact ⟨rfl, rfl⟩))
    (fun os started H enc _ => lifted_PlanBuilds os started H enc)
#print axioms PlanBuilds_holds
end Go.Proofs.Ythncfkpamokomaa
