/- forebaylaw12.DenRuns: for every input the call returns true, and each argument reads behind it as it read before. The walk lies in the text that this one imports; here it is lifted to the given row. -/
import Derived.Test.YtlejomlppjpchaaGreatRY22
import Derived.Test.YtlejomlppjpchaaGreatDenRunsJf
import Derived.Test.YtlejomlppjpchaaGreatRY9
import Derived.Test.YtlejomlppjpchaaGreatRY23
namespace Go.Proofs.YtlejomlppjpchaaGreat
open Go.ChangeShapes Go.WideShapes Go.ChangeAt Go.RowKit Go.Fb
set_option linter.unusedVariables false

set_option maxRecDepth 100000 in
theorem lifted_DenRuns (os : Os) (started : os.Started) (H : Type) (enc : TypeId × Value → H) :
    ReturnsInHanded {} Tryz.checked os 3 .any (Rows.denRunsSpec.pre6 enc Tryz.prog Tryz.f3 Rows.denRunsRow.domain false) (Rows.denRunsSpec.post enc Tryz.prog Tryz.f3 false true false false) := by
  refine returnsInHanded_of_change (C := Tryz.checked) (show ownKnob Tryz.prog.godebug = none by kernel_rfl) started (by kernel_rfl) Tryz.func3
    (ChangeSpec.witness6 (enc := enc) (C := Tryz.checked) false ⟨#[], #[.slice none 0 0, .slice none 0 0], []⟩ 8 (by kernel_rfl) (by kernel_rfl) (by kernel_rfl) (by kernel_rfl)) ?_
  intro W base args ds gs before hval0 hW hcnd _
  have hval : ∀ (j : Nat) t v, Tryz.f3.params[j]? = some t → args[j]? = some v → Value.okWide Tryz.prog W .any base t v := hval0
  have hW' := hW
  obtain ⟨p, q, hA0, hV, rfl, hfz, hnd⟩ := hW
  have hA : DataW.TrodAll enc Tryz.prog W 0 (fun _ => true) true Tryz.f3.params.toList args.toList ds p := hA0
  rw [Tryz.params3] at hA hval
  obtain ⟨v0, vs0, d0, ds0, p0, q0, hargs, rfl, rfl, h0, r0'⟩ := trodAll_cons hA
  obtain ⟨v1, vs1, d1, ds1, p1, q1, rfl, rfl, rfl, h1, r1'⟩ := trodAll_cons r0'
  obtain ⟨rfl, rfl, rfl⟩ := trodAll_nil r1'
  obtain rfl : args = #[v0, v1] := by cases args; simp_all
  obtain ⟨rfl, rfl⟩ := trodVars_none hV
  have k0 := h0
  have lt0 : ∀ x ∈ p0, x.block < W.heap.size := by obtain ⟨m, hm⟩ := k0; exact DataW.trod_lt m _ _ _ hm
  have k1 := h1
  have lt1 : ∀ x ∈ p1, x.block < W.heap.size := by obtain ⟨m, hm⟩ := k1; exact DataW.trod_lt m _ _ _ hm
  obtain ⟨A0, n0, c0, M0, rfl, l0, m0, r0, wf0⟩ := arg_nodes (hval 0 22 v0 rfl rfl) h0
  obtain ⟨A1, n1, c1, Z1, rfl, g1, m1, r1, w1⟩ := arg_segs_cap (hval 1 23 v1 rfl rfl) h1
  clear hA0 hval0
  refine (walk_DenRuns A0 n0 c0 M0 (Nat.le_trans l0 m0) l0 wf0.cap A1 n1 c1 Z1 (fun z hz => ⟨(w1 z hz).1, (w1 z hz).2.1⟩) (stWf_cap0 w1) W r0 r1).mono fun e W' ⟨he, bel⟩ => ?_
  subst he
  exact ⟨_, rfl, _, _, _, [], _, [], hW', trodAll_mk1 (shut_bool Tryz.underlying4 _), (trodAll_cons_mk (Below.trod (show laidOutB Tryz.prog = true by kernel_rfl) (by kernel_rfl) (of_decide_eq_true (by kernel_rfl)) k0 bel lt0) (trodAll_cons_mk (Below.trod (show laidOutB Tryz.prog = true by kernel_rfl) (by kernel_rfl) (of_decide_eq_true (by kernel_rfl)) k1 bel lt1) trodAll_mk0)), rfl, bel.frame _, fun h => by cases h⟩

theorem DenRuns_holds : Rows.DenRunsSaid :=
  OpenClaim.holds_of_wide 3 Tryz.f3 rfl rfl rfl rfl rfl rfl rfl ⟨rfl, rfl, rfl, rfl, rfl⟩ rfl rfl rfl rfl rfl (by kernel_rfl) Tryz.func3 jf_DenRuns
    (of_decide_eq_true (by kernel_rfl)) (by unfold Func.isWrapper; first | (rw [if_pos (by decide +kernel)]; kernel_rfl) | (rw [if_neg (by decide +kernel)]; exact ⟨rfl, rfl⟩))
    (fun os started H enc _ => lifted_DenRuns os started H enc)
#print axioms DenRuns_holds
end Go.Proofs.YtlejomlppjpchaaGreat
