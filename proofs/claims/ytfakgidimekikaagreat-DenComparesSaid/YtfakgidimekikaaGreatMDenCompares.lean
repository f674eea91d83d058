/- forebaylaw12.DenCompares: for every input the call returns true, and each argument reads behind it as it read before. The walk lies in the text that this one imports; here it is lifted to the given row. -/
import Derived.Test.YtfakgidimekikaaGreatMPfC
import Derived.Test.YtfakgidimekikaaGreatMFlD
import Derived.Test.YtfakgidimekikaaGreatMArgs
import Derived.Test.YtfakgidimekikaaGreatMLnsA
import Derived.Test.YtfakgidimekikaaGreatMItA
import Derived.Deep.DeepCutAuto
import Derived.Deep.RegionHeld3
namespace Go.Proofs.YtfakgidimekikaaGreat
open Go.RowKit Go.Fb
set_option linter.unusedVariables false
set_option maxRecDepth 100000 in
set_option maxHeartbeats 16000000 in
theorem walk_DenCompares (A0 : Option Addr) (n0 k0 : Nat) (a : List (Nat → Int)) (ha : n0 = a.length) (hk0 : n0 ≤ k0) (hm0 : k0 ≤ maxLen) (A1 : Option Addr) (n1 k1 : Nat) (b : List (Nat → Int)) (hb : n1 = b.length) (hk1 : n1 ≤ k1) (hm1 : k1 ≤ maxLen) (x : Nat → Int) (w : World) (r0 : Reads w w.heap.size 5 A0 n0 (cellsLn a)) (r1 : Reads w w.heap.size 5 A1 n1 (cellsLn b)) :
    Calls Tryz.prog 3 #[.slice A0 n0 k0, .slice A1 n1 k1, .agg #[.int .i64 (x 0), .int .i64 (x 1), .int .i64 (x 2), .int .i64 (x 3), .int .i64 (x 4)]] w fun e w' => e = .returned (.bool true) ∧ Below w.heap.size w w' := by
  have R0 := Lib.hid r0
  have R1 := Lib.hid r1
  have HA := Lib.hid ha
  have HB := Lib.hid hb
  have fa := (Fr.refl w.heap.size [] w).alloc (Nat.le_refl _) (.cells #[.int .i64 (x 0), .int .i64 (x 1), .int .i64 (x 2), .int .i64 (x 3), .int .i64 (x 4)] 26)
  have BX := Lib.hid (Blk.new w 26 #[.int .i64 (x 0), .int .i64 (x 1), .int .i64 (x 2), .int .i64 (x 3), .int .i64 (x 4)])
  have FA := Lib.hid fa
  clear fa r0 r1 ha hb
  go_enter Tryz.func3, Tryz.ntmps3
  go_upto_region 1 with fail
  generalize w.alloc (.cells #[.int .i64 (x 0), .int .i64 (x 1), .int .i64 (x 2), .int .i64 (x 3), .int .i64 (x 4)] 26) = w1 at *
  obtain ⟨gx, hgx⟩ : ∃ g, g = w.heap.size := ⟨_, rfl⟩
  rw [← hgx] at BX ⊢
  have HGX := Lib.hid hgx
  clear hgx
  have HAW := Lib.hid (awake12_any w1)
  go_wp2_with fail
  refine HAW.out.mono ?_
  rintro e w2 ⟨rfl, f2⟩
  have F2 := Lib.hid (FA.out.trans (f2.mono (B' := w.heap.size) (L' := []) FA.out.size (by simp)))
  have BX2 := Lib.hid (BX.out.fr f2 BX.out.lt (by simp))
  clear f2 HAW FA BX
  by_cases h60 : 60 < n0
  · have hi : (60 : Int) < (n0 : Int) := by omega
    go_wp2_with fail
    go_ret
    exact ⟨rfl, F2.out.below⟩
  have hi0 : ¬ (60 : Int) < (n0 : Int) := by omega
  by_cases h61 : 60 < n1
  · have hi : (60 : Int) < (n1 : Int) := by omega
    go_wp2_with fail
    go_ret
    exact ⟨rfl, F2.out.below⟩
  have hi1 : ¬ (60 : Int) < (n1 : Int) := by omega
  obtain ⟨u, hu⟩ : ∃ u, u = (prefB a b && prefB b a) := ⟨_, rfl⟩
  obtain ⟨v, hv⟩ : ∃ v, v = prefB a b := ⟨_, rfl⟩
  have HC1 := Lib.hid (fun (wx : World) (hx : Fr w.heap.size [] w wx) => (by
    have := dalike_any A0 A1 n0 n1 k0 k1 w.heap.size a b wx HA.out HB.out (by omega) (by omega) (R0.out.fr hx (Nat.le_refl _) (by simp)) (R1.out.fr hx (Nat.le_refl _) (by simp)) hx.size
    rw [alike_eq, ← hu] at this
    exact this : Calls Tryz.prog 16 #[.slice A0 n0 k0, .slice A1 n1 k1] wx fun e w' => e = .returned (.bool u) ∧ Fr wx.heap.size [] wx w'))
  have HC2 := Lib.hid (fun (wx : World) (hx : Fr w.heap.size [] w wx) => (by
    have := ralike_any A0 A1 n0 n1 k0 k1 w.heap.size a b wx HA.out HB.out (by omega) (by omega) (R0.out.fr hx (Nat.le_refl _) (by simp)) (R1.out.fr hx (Nat.le_refl _) (by simp)) hx.size
    rw [← hu] at this
    exact this : Calls Tryz.prog 17 #[.slice A0 n0 k0, .slice A1 n1 k1] wx fun e w' => e = .returned (.bool u) ∧ Fr wx.heap.size [] wx w'))
  have HC3 := Lib.hid (fun (wx : World) (hx : Fr w.heap.size [] w wx) => (by
    have := dprefix_any A0 A1 n0 n1 k0 k1 w.heap.size a b wx HA.out HB.out (by omega) (by omega) (R0.out.fr hx (Nat.le_refl _) (by simp)) (R1.out.fr hx (Nat.le_refl _) (by simp)) hx.size
    rw [← hv] at this
    exact this : Calls Tryz.prog 18 #[.slice A0 n0 k0, .slice A1 n1 k1] wx fun e w' => e = .returned (.bool v) ∧ Fr wx.heap.size [] wx w'))
  have HC4 := Lib.hid (fun (wx : World) (hx : Fr w.heap.size [] w wx) => (by
    have := rprefix_any A0 A1 n0 n1 k0 k1 w.heap.size a b wx HA.out HB.out (by omega) (by omega) (R0.out.fr hx (Nat.le_refl _) (by simp)) (R1.out.fr hx (Nat.le_refl _) (by simp)) hx.size
    rw [← hv] at this
    exact this : Calls Tryz.prog 19 #[.slice A0 n0 k0, .slice A1 n1 k1] wx fun e w' => e = .returned (.bool v) ∧ Fr wx.heap.size [] wx w'))
  have HC5 := Lib.hid (fun (wx : World) (hx : Fr w.heap.size [] w wx) => (by
    have := dalike_any A0 A0 n0 n0 k0 k0 w.heap.size a a wx HA.out HA.out (by omega) (by omega) (R0.out.fr hx (Nat.le_refl _) (by simp)) (R0.out.fr hx (Nat.le_refl _) (by simp)) hx.size
    rw [prefB_self, Bool.and_true, decide_eq_true rfl] at this
    exact this : Calls Tryz.prog 16 #[.slice A0 n0 k0, .slice A0 n0 k0] wx fun e w' => e = .returned (.bool true) ∧ Fr wx.heap.size [] wx w'))
  have HC6 := Lib.hid (fun (wx : World) (hx : Fr w.heap.size [] w wx) => (by
    have := dprefix_any none A0 0 n0 0 k0 w.heap.size [] a wx rfl HA.out (by omega) (by omega) Reads.none_ (R0.out.fr hx (Nat.le_refl _) (by simp)) hx.size
    rw [prefB_nil] at this
    exact this : Calls Tryz.prog 18 #[.slice none 0 0, .slice A0 n0 k0] wx fun e w' => e = .returned (.bool true) ∧ Fr wx.heap.size [] wx w'))
  obtain ⟨q, hq⟩ : ∃ q, q = onlyV a (x 0, x 1, x 2) := ⟨_, rfl⟩
  obtain ⟨nq, hnq⟩ : ∃ z, z = q.length := ⟨_, rfl⟩
  have hq60 : nq ≤ 1000 := by rw [hnq, hq]; exact Nat.le_trans (onlyV_le _ _) (by rw [← HA.out]; omega)
  have HC7 := Lib.hid (fun (wx : World) (hx : Fr w.heap.size [] w wx) => (by
    have := only_any A0 k0 w.heap.size a (x 0) (x 1) (x 2) wx (by rw [← HA.out]; exact R0.out.fr hx (Nat.le_refl _) (by simp)) hx.size (by rw [← HA.out]; omega)
    unfold OnlyOut at this
    rw [← HA.out, ← hq, ← hnq] at this
    exact this.mono fun e w' ⟨A, c, h1, h2, h3⟩ => ⟨A, c, h1, Reads.of_own h2, h3⟩ : Calls Tryz.prog 21 #[.slice A0 n0 k0, .int .i64 (x 0), .int .i64 (x 1), .int .i64 (x 2)] wx fun e w' => ∃ A c, e = .returned (.slice A nq c) ∧ Reads w' w'.heap.size 2 A nq (cellsV q) ∧ Fr wx.heap.size [] wx w'))
  have HC8 := Lib.hid (fun (wx : World) (hx : Fr w.heap.size [] w wx) => (by
    have := ronly_any A0 k0 w.heap.size a (x 0) (x 1) (x 2) wx (by rw [← HA.out]; exact R0.out.fr hx (Nat.le_refl _) (by simp)) hx.size (by rw [← HA.out]; omega)
    unfold OnlyOut at this
    rw [← HA.out, ← hq, ← hnq] at this
    exact this.mono fun e w' ⟨A, c, h1, h2, h3⟩ => ⟨A, c, h1, Reads.of_own h2, h3⟩ : Calls Tryz.prog 22 #[.slice A0 n0 k0, .int .i64 (x 0), .int .i64 (x 1), .int .i64 (x 2)] wx fun e w' => ∃ A c, e = .returned (.slice A nq c) ∧ Reads w' w'.heap.size 2 A nq (cellsV q) ∧ Fr wx.heap.size [] wx w'))
  have HNQ := Lib.hid hnq
  have hbw : gx < w2.heap.size := BX2.out.lt
  have SF := Lib.hid (fun (W : World) (hf : Fr w2.heap.size [] w2 W) => (⟨(BX2.out.fr hf BX2.out.lt (by simp)).cell 0, (BX2.out.fr hf BX2.out.lt (by simp)).cell 1, (BX2.out.fr hf BX2.out.lt (by simp)).cell 2⟩ : W.cell? ⟨gx, 0, none⟩ = some (.int .i64 (x 0)) ∧ W.cell? ⟨gx, 1, none⟩ = some (.int .i64 (x 1)) ∧ W.cell? ⟨gx, 2, none⟩ = some (.int .i64 (x 2))))
  have huu : (u == u) = true := by simp
  have hvv : (v == v) = true := by simp
  clear hu hv hq hnq
  go_upto_region 5 with fail
  have INV := Lib.hid ((Fr.refl w2.heap.size [] w2).drew)
  have HC15 := Lib.hid (fun (wx : World) (hx : Fr w.heap.size [] w wx) (V : Value) (r : Bool) (h : V = .slice A1 n1 k1 ∧ r = u ∨ V = .slice A0 n0 k0 ∧ r = true) => (by
    rcases h with ⟨rfl, rfl⟩ | ⟨rfl, rfl⟩
    · exact HC1.out wx hx
    · exact HC5.out wx hx : Calls Tryz.prog 16 #[.slice A0 n0 k0, V] wx fun e w' => e = .returned (.bool r) ∧ Fr wx.heap.size [] wx w'))
  have HC36 := Lib.hid (fun (wx : World) (hx : Fr w.heap.size [] w wx) (V U : Value) (r : Bool) (h : V = .slice A0 n0 k0 ∧ U = .slice A1 n1 k1 ∧ r = v ∨ V = .slice none 0 0 ∧ U = .slice A0 n0 k0 ∧ r = true) => (by
    rcases h with ⟨rfl, rfl, rfl⟩ | ⟨rfl, rfl, rfl⟩
    · exact HC3.out wx hx
    · exact HC6.out wx hx : Calls Tryz.prog 18 #[V, U] wx fun e w' => e = .returned (.bool r) ∧ Fr wx.heap.size [] wx w'))
  clear HC1 HC3 HC5 HC6
  go_region_held3 (fun W => W.cell? ⟨gx, 0, none⟩ = some (.int .i64 (x 0)) ∧ W.cell? ⟨gx, 1, none⟩ = some (.int .i64 (x 1)) ∧ W.cell? ⟨gx, 2, none⟩ = some (.int .i64 (x 2))) (exact SF.out _ INV.out)
    ((first | (go_at_call 16; refine (HC15.out _ (F2.out.trans (INV.out.mono (B' := w.heap.size) (L' := []) F2.out.size (by simp))) _ _ (by first | exact .inl ⟨rfl, rfl⟩ | exact .inr ⟨rfl, rfl⟩)).mono ?_; rintro e wv ⟨rfl, fv⟩; have INV := Lib.hid (INV.out.trans (fv.mono (B' := _) (L' := []) INV.out.size (by simp))); clear fv) | (go_at_call 17; refine (HC2.out _ (F2.out.trans (INV.out.mono (B' := w.heap.size) (L' := []) F2.out.size (by simp)))).mono ?_; rintro e wv ⟨rfl, fv⟩; have INV := Lib.hid (INV.out.trans (fv.mono (B' := _) (L' := []) INV.out.size (by simp))); clear fv) | (go_at_call 18; refine (HC36.out _ (F2.out.trans (INV.out.mono (B' := w.heap.size) (L' := []) F2.out.size (by simp))) _ _ _ (by first | exact .inl ⟨rfl, rfl, rfl⟩ | exact .inr ⟨rfl, rfl, rfl⟩)).mono ?_; rintro e wv ⟨rfl, fv⟩; have INV := Lib.hid (INV.out.trans (fv.mono (B' := _) (L' := []) INV.out.size (by simp))); clear fv) | (go_at_call 19; refine (HC4.out _ (F2.out.trans (INV.out.mono (B' := w.heap.size) (L' := []) F2.out.size (by simp)))).mono ?_; rintro e wv ⟨rfl, fv⟩; have INV := Lib.hid (INV.out.trans (fv.mono (B' := _) (L' := []) INV.out.size (by simp))); clear fv) | (go_at_call 21; refine (HC7.out _ (F2.out.trans (INV.out.mono (B' := w.heap.size) (L' := []) F2.out.size (by simp)))).mono ?_; rintro e wv ⟨A7, c7, rfl, r7, fv⟩; have INV := Lib.hid (INV.out.trans (fv.mono (B' := _) (L' := []) INV.out.size (by simp))); have HRA := Lib.hid r7; clear fv r7) | (go_at_call 22; refine (HC8.out _ (F2.out.trans (INV.out.mono (B' := w.heap.size) (L' := []) F2.out.size (by simp)))).mono ?_; rintro e wv ⟨A8, c8, rfl, r8, fv⟩; have INV := Lib.hid (INV.out.trans (fv.mono (B' := _) (L' := []) INV.out.size (by simp))); have HRA := Lib.hid ((HRA.out.fr fv (Nat.le_refl _) (by simp)).more fv.size); have HRB := Lib.hid r8; clear fv r8) | (go_at_call 20; refine (vsame_yes HNQ.out HRA.out HRB.out (by omega)).mono ?_; rintro e wv ⟨rfl, fv⟩; have INV := Lib.hid (INV.out.trans (fv.mono (B' := _) (L' := []) INV.out.size (by simp))); clear fv)))
  all_goals
    have F9 := Lib.hid (F2.out.trans (INV.out.mono (B' := w.heap.size) (L' := []) F2.out.size (by simp)))
    go_wp2_with fail
    go_ret
    exact ⟨rfl, F9.out.below⟩
end Go.Proofs.YtfakgidimekikaaGreat
namespace Go.Proofs.YtfakgidimekikaaGreat
open Go.ChangeShapes Go.WideShapes Go.ChangeAt Go.RowKit Go.Fb
set_option linter.unusedVariables false

set_option maxRecDepth 100000 in
theorem lifted_DenCompares (os : Os) (started : os.Started) (H : Type) (enc : TypeId × Value → H) :
    ReturnsInHanded {} Tryz.checked os 3 .any (Rows.denComparesSpec.pre6 enc Tryz.prog Tryz.f3 Rows.denComparesRow.domain false) (Rows.denComparesSpec.post enc Tryz.prog Tryz.f3 false true false false) := by
  refine returnsInHanded_of_change (C := Tryz.checked) (show ownKnob Tryz.prog.godebug = none by kernel_rfl) started (by kernel_rfl) Tryz.func3
    (ChangeSpec.witness6 (enc := enc) (C := Tryz.checked) false ⟨#[], #[.slice none 0 0, .slice none 0 0, .agg #[.int .i64 0, .int .i64 0, .int .i64 0, .int .i64 0, .int .i64 0]], []⟩ 8 (by kernel_rfl) (by kernel_rfl) (by kernel_rfl) (by kernel_rfl)) ?_
  intro W base args ds gs before hval0 hW hcnd _
  have hval : ∀ (j : Nat) t v, Tryz.f3.params[j]? = some t → args[j]? = some v → Value.okWide Tryz.prog W .any base t v := hval0
  have hW' := hW
  obtain ⟨p, q, hA0, hV, rfl, hfz, hnd⟩ := hW
  have hA : DataW.TrodAll enc Tryz.prog W 0 (fun _ => true) true Tryz.f3.params.toList args.toList ds p := hA0
  rw [Tryz.params3] at hA hval
  obtain ⟨v0, vs0, d0, ds0, p0, q0, hargs, rfl, rfl, h0, r0'⟩ := trodAll_cons hA
  obtain ⟨v1, vs1, d1, ds1, p1, q1, rfl, rfl, rfl, h1, r1'⟩ := trodAll_cons r0'
  obtain ⟨v2, vs2, d2, ds2, p2, q2, rfl, rfl, rfl, h2, r2'⟩ := trodAll_cons r1'
  obtain ⟨rfl, rfl, rfl⟩ := trodAll_nil r2'
  obtain rfl : args = #[v0, v1, v2] := by cases args; simp_all
  obtain ⟨rfl, rfl⟩ := trodVars_none hV
  have k0 := h0
  have lt0 : ∀ x ∈ p0, x.block < W.heap.size := by obtain ⟨m, hm⟩ := k0; exact DataW.trod_lt m _ _ _ hm
  have k1 := h1
  have lt1 : ∀ x ∈ p1, x.block < W.heap.size := by obtain ⟨m, hm⟩ := k1; exact DataW.trod_lt m _ _ _ hm
  have k2 := h2
  have lt2 : ∀ x ∈ p2, x.block < W.heap.size := by obtain ⟨m, hm⟩ := k2; exact DataW.trod_lt m _ _ _ hm
  obtain ⟨A0, c0, e0, rfl, g0, m0, r0⟩ := arg_lines (hval 0 22 v0 rfl rfl) h0
  obtain ⟨A1, c1, e1, rfl, g1, m1, r1⟩ := arg_lines (hval 1 22 v1 rfl rfl) h1
  obtain ⟨x2, rfl⟩ := arg_line (hval 2 26 v2 rfl rfl) h2
  clear hA0 hval0
  refine (walk_DenCompares A0 e0.length c0 e0 rfl g0 m0 A1 e1.length c1 e1 rfl g1 m1 x2 W r0 r1).mono fun e W' ⟨he, bel⟩ => ?_
  subst he
  exact ⟨_, rfl, _, _, _, [], _, [], hW', trodAll_mk1 (shut_bool Tryz.underlying4 _), (trodAll_cons_mk (Below.trod (show laidOutB Tryz.prog = true by kernel_rfl) (by kernel_rfl) (of_decide_eq_true (by kernel_rfl)) k0 bel lt0) (trodAll_cons_mk (Below.trod (show laidOutB Tryz.prog = true by kernel_rfl) (by kernel_rfl) (of_decide_eq_true (by kernel_rfl)) k1 bel lt1) (trodAll_cons_mk (Below.trod (show laidOutB Tryz.prog = true by kernel_rfl) (by kernel_rfl) (of_decide_eq_true (by kernel_rfl)) k2 bel lt2) trodAll_mk0))), rfl, bel.frame _, fun h => by cases h⟩

theorem DenCompares_holds : Rows.DenComparesSaid :=
  OpenClaim.holds_of_wide 3 Tryz.f3 rfl rfl rfl rfl rfl rfl rfl ⟨rfl, rfl, rfl, rfl, rfl⟩ rfl rfl rfl rfl rfl (by kernel_rfl) Tryz.func3 (by kernel_rfl)
    (of_decide_eq_true (by kernel_rfl)) (by unfold Func.isWrapper; first | (rw [if_pos (by decide +kernel)]; kernel_rfl) | (rw [if_neg (by decide +kernel)]; exact ⟨rfl, rfl⟩))
    (fun os started H enc _ => lifted_DenCompares os started H enc)
#print axioms DenCompares_holds
end Go.Proofs.YtfakgidimekikaaGreat
