/- forebaylaw18.SourceAgain: for every input the call returns true, and each argument reads behind it as it read before. The walk lies in the text that this one imports; here it is lifted to the given row. -/
import Derived.Test.YtkmpcddhbdndkaaSourceAgain
import Derived.Test.YtkmpcddhbdndkaaArgs
import Derived.Test.YtkmpcddhbdndkaaRecsArg
namespace Go.Proofs.Ytkmpcddhbdndkaa
open Go.ChangeShapes Go.WideShapes Go.ChangeAt Go.RowKit Go.Fb
set_option linter.unusedVariables false

theorem u8_nat {x : Int} (h : (Lit.int .u8 x).wf = true) : ∃ n : Nat, x = (n : Int) ∧ n ≤ 255 := by
  have hb : 0 ≤ x ∧ x ≤ 255 := bounds_u8 h
  obtain ⟨n, rfl⟩ := Int.eq_ofNat_of_zero_le hb.1
  exact ⟨n, rfl, by omega⟩
theorem again2 (A : Option Addr) (c : Nat) (xs : List (Nat → Int)) (hnc : xs.length ≤ c) (f : Nat → Int) (hf : ∀ j, j < 2 → (Lit.int .u8 (f j)).wf = true) (w : World) (hr : Reads w w.heap.size 3 A xs.length (cellsR xs)) :
    Calls Try.prog 4 #[.slice A xs.length c, .agg ((List.range 2).map fun j => Value.int .u8 (f j)).toArray] w fun e w' => e = .returned (.bool true) ∧ Below w.heap.size w w' := by
  obtain ⟨p, hp, hp1⟩ := u8_nat (hf 0 (by omega))
  obtain ⟨q, hq, hq1⟩ := u8_nat (hf 1 (by omega))
  have h := walk_SourceAgain A c xs hnc p q hp1 hq1 w hr
  rw [← hp, ← hq] at h
  exact h
set_option maxRecDepth 100000 in
theorem lifted_SourceAgain (os : Os) (started : os.Started) (H : Type) (enc : TypeId × Value → H) :
    ReturnsInHanded {} Try.checked os 4 .any (Rows.sourceAgainSpec.pre6 enc Try.prog Try.f4 Rows.sourceAgainRow.domain false) (Rows.sourceAgainSpec.post enc Try.prog Try.f4 false true false false) := by
  refine returnsInHanded_of_change (C := Try.checked) (show ownKnob Try.prog.godebug = none by kernel_rfl) started (by kernel_rfl) Try.func4
    (ChangeSpec.witness6 (enc := enc) (C := Try.checked) false ⟨#[], #[.slice none 0 0, .agg #[.int .u8 0, .int .u8 0]], []⟩ 8 (by kernel_rfl) (by kernel_rfl) (by kernel_rfl) (by kernel_rfl)) ?_
  intro W base args ds gs before hval0 hW hcnd _
  have hval : ∀ (j : Nat) t v, Try.f4.params[j]? = some t → args[j]? = some v → Value.okWide Try.prog W .any base t v := hval0
  have hW' := hW
  obtain ⟨p, q, hA0, hV, rfl, hfz, hnd⟩ := hW
  have hA : DataW.TrodAll enc Try.prog W 0 (fun _ => true) true Try.f4.params.toList args.toList ds p := hA0
  rw [Try.params4] at hA hval
  obtain ⟨v0, vs0, d0, ds0, p0, q0, hargs, rfl, rfl, h0, r0'⟩ := trodAll_cons hA
  obtain ⟨v1, vs1, d1, ds1, p1, q1, rfl, rfl, rfl, h1, r1'⟩ := trodAll_cons r0'
  obtain ⟨rfl, rfl, rfl⟩ := trodAll_nil r1'
  obtain rfl : args = #[v0, v1] := by cases args; simp_all
  obtain ⟨rfl, rfl⟩ := trodVars_none hV
  have k0 := h0
  have lt0 : ∀ x ∈ p0, x.block < W.heap.size := by obtain ⟨m, hm⟩ := k0; exact DataW.trod_lt m _ _ _ hm
  have k1 := h1
  have lt1 : ∀ x ∈ p1, x.block < W.heap.size := by obtain ⟨m, hm⟩ := k1; exact DataW.trod_lt m _ _ _ hm
  obtain ⟨A0, c0, x0, rfl, l0, m0, rr0⟩ := arg_recs (hval 0 46 v0 rfl rfl) h0
  obtain ⟨f1, rfl, w1⟩ := agg_ints (e := 5) (n := 2) Try.underlying47 rfl Try.underlying5 (by kernel_rfl) (by kernel_rfl) (hval 1 47 v1 rfl rfl)
  clear hA0 hval0
  refine (again2 A0 c0 x0 l0 f1 w1 W rr0).mono fun e W' ⟨he, bel⟩ => ?_
  subst he
  exact ⟨_, rfl, _, _, _, [], _, [], hW', trodAll_mk1 (shut_bool Try.underlying4 _), (trodAll_cons_mk (Below.trod (show laidOutB Try.prog = true by kernel_rfl) (by kernel_rfl) (of_decide_eq_true (by kernel_rfl)) k0 bel lt0) (trodAll_cons_mk (Below.trod (show laidOutB Try.prog = true by kernel_rfl) (by kernel_rfl) (of_decide_eq_true (by kernel_rfl)) k1 bel lt1) trodAll_mk0)), rfl, bel.frame _, fun h => by cases h⟩

theorem SourceAgain_holds : Rows.SourceAgainSaid :=
  OpenClaim.holds_of_wide 4 Try.f4 rfl rfl rfl rfl rfl rfl rfl ⟨rfl, rfl, rfl, rfl, rfl⟩ rfl rfl rfl rfl rfl (by kernel_rfl) Try.func4 (by kernel_rfl)
    (of_decide_eq_true (by kernel_rfl)) (by unfold Func.isWrapper; first | (rw [if_pos (by decide +kernel)]; kernel_rfl) | (rw [if_neg (by decide +kernel)]; exact ⟨rfl, rfl⟩))
    (fun os started H enc _ => lifted_SourceAgain os started H enc)
#print axioms SourceAgain_holds
end Go.Proofs.Ytkmpcddhbdndkaa
