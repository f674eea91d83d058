/- forebaylaw05.CheckDead. -/
import Derived.Test.YtddngibfhklnfaaChkUse
import Derived.ChangeKeysEq
import Derived.Deep.DeepCutAuto
namespace Go.Proofs.Ytddngibfhklnfaa
open Go.RowKit Go.Fb
theorem chk_dead_l {l : List (Int × Int)} {s : CS} {k : Nat} {i : Int × Int} (h : chkL l = some s) (hd : s.D k = -1) (hi : rightB i = true) : chkL (l.set k i) = some s := by
  unfold chkL at h ⊢
  by_cases hf : fitsB l = true
  · rw [if_pos hf] at h
    have hf2 : fitsB (l.set k i) = true := by
      unfold fitsB at hf ⊢
      rw [Bool.and_eq_true, List.all_eq_true] at hf ⊢
      refine ⟨by rw [List.length_set]; exact hf.1, fun x hx => ?_⟩
      rcases List.mem_or_eq_of_mem_set hx with hx | rfl
      · exact hf.2 x hx
      · exact hi
    rw [if_pos hf2, List.length_set]
    refine check_dead (k := k) (fun j hj => ?_) (Nat.le_refl _) h hd
    unfold pF
    rw [List.getD_eq_getElem?_getD, List.getD_eq_getElem?_getD, List.getElem?_set_ne (fun e => hj e.symm)]
  · rw [if_neg hf] at h; cases h
theorem cellsI_set {l : List (Int × Int)} {k : Nat} (hk : k < l.length) (i : Int × Int) : cellsI (l.set k i) = ((cellsI l).set (k * 2) (.int .i64 i.1)).set (k * 2 + 1) (.int .i64 i.2) := by
  induction l generalizing k with
  | nil => simp at hk
  | cons x l ih =>
    cases k with
    | zero => rfl
    | succ k =>
      have e : ∀ y : Int × Int, ∀ m : List (Int × Int), cellsI (y :: m) = .int .i64 y.1 :: .int .i64 y.2 :: cellsI m := fun _ _ => rfl
      rw [List.set_cons_succ, e, e, ih (by simpa using hk), show (k + 1) * 2 = k * 2 + 1 + 1 by omega]
      rfl
theorem ownsRow_put {w : World} {base e n g c size : Nat} {xs : List Value} (h : w.ownsRow base e size (.slice (some ⟨g, 0, none⟩) n c) n xs) (k : Nat) (u : Value) :
    (w.setCell ⟨g, k, none⟩ u).ownsRow base e size (.slice (some ⟨g, 0, none⟩) n c) n (xs.set k u) := by
  obtain ⟨hl, hc⟩ := h
  refine ⟨by rw [List.length_set]; exact hl, .inr ?_⟩
  rcases hc with ⟨hn, _⟩ | ⟨g', cap, cur, hv, hb, hg, h1, h2, h3, h4⟩
  · cases hn
  · have hv' := hv
    injection hv with hv1 hv2 hv3
    injection hv1 with hv1
    injection hv1 with hv1
    subst hv1
    refine ⟨g, cap, cur.setIfInBounds k u, hv', hb, ?_, h1, h2, by rw [Array.size_setIfInBounds]; exact h3, ?_⟩
    · simp [World.setCell, Array.getElem?_modify, hg]
    · rw [Array.toList_setIfInBounds, List.take_set, h4]
theorem own_frozen {w : World} {base e n g c size : Nat} {xs : List Value} (h : w.ownsRow base e size (.slice (some ⟨g, 0, none⟩) n c) n xs) (k : Nat) : w.frozen? ⟨g, k, none⟩ = false := by
  rcases h.2 with ⟨hn, _⟩ | ⟨g', cap, cur, hv, hb, hg, _⟩
  · cases hn
  · injection hv with hv
    injection hv with hv
    injection hv with hv
    subst hv
    simp [World.frozen?, hg]
theorem instrTy : SliceTy Try.prog 35 71 2 16 := SliceTy.mk' (z := .agg #[.int .i64 0, .int .i64 0]) Try.underlying35 (by kernel_rfl) rfl (by omega)
theorem downs_empty (w : World) : (w.alloc (.cells #[] 71)).ownsRow w.heap.size 71 2 (.slice (some ⟨w.heap.size, 0, none⟩) 0 0) 0 [] := by
  refine ⟨rfl, .inr ⟨w.heap.size, 0, #[], rfl, Nat.le_refl _, Blk.new _ _ _, ?_⟩⟩
  simp
theorem dinsC_one {l : List (Int × Int)} : ∀ u ∈ cellsI l, u.oneCell' = true := by
  intro u hu
  unfold cellsI at hu
  obtain ⟨x, _, hx⟩ := List.mem_flatMap.1 hu
  simp [insC] at hx
  rcases hx with rfl | rfl <;> rfl
theorem eqItems_bool {e : TypeId} {P : Program} (he : P.underlying e = some .bool) (hc : P.cellsOf e = 1) (d : Nat) (xs : Array Value) (f : Nat → Bool) (w : World) :
    ∀ is : List Nat, (∀ j ∈ is, xs[j]? = some (.bool (f j))) → (Op.eqItems (d + 1) e (P.cellsOf e) xs xs is).run P w = .ok true w
  | [], _ => by simp [Op.eqItems]
  | i :: is, h => by
    have h1 := h i (by simp)
    have ih := eqItems_bool he hc d xs f w is (fun j hj => h j (by simp [hj]))
    have p1 : (part e xs (i * P.cellsOf e)).run P w = .ok (.bool (f i)) w := by simp [part, isAgg, run_underlying he, hc, h1]
    have e1 : (Op.equalIn (d + 1) e (.bool (f i)) (.bool (f i))).run P w = .ok true w := by
      unfold Op.equalIn
      simp [run_underlying he]
    simp only [Op.eqItems, Sem.run_bind, p1, Result.andThen_ok, e1]
    simp [ih]
theorem uses_neq (a b : Bool) (w : World) : (binOp .neq 75 (.agg #[.bool a, .bool b]) (.agg #[.bool a, .bool b])).run Try.prog w = .ok (.bool false) w := by
  have info : (Try.prog.info? 4).map (fun i => (i.zero, i.size, i.bytes)) = some (some (.bool false), 1, 1) := by kernel_rfl
  obtain ⟨i, hi, _⟩ := info_parts info
  have h : (Op.equalIn 10000 75 (.agg #[.bool a, .bool b]) (.agg #[.bool a, .bool b])).run Try.prog w = .ok true w := by
    rw [run_equalIn_array w 9999 _ _ Try.underlying75 hi]
    exact eqItems_bool Try.underlying4 (by kernel_rfl) 9998 _ (fun j => if j = 0 then a else b) w _ (fun j hj => by
      have hj2 : j < 2 := by simpa using hj
      match j, hj2 with
      | 0, _ | 1, _ => rfl)
  simp only [binOp, Op.equal, Op.maxDepth, Sem.run_bind, h, Result.andThen_ok]
  rfl
end Go.Proofs.Ytddngibfhklnfaa
