/- Texts merged into one, for the number of files a claim may have: PlMv. -/
import Derived.Test.YthncfkpamokomaaMUnd
import Derived.Test.YthncfkpamokomaaMRfD
import Derived.Test.YthncfkpamokomaaMBldC
namespace Go.Proofs.Ythncfkpamokomaa
set_option linter.unusedVariables false
theorem step_norm (L : List Nd) (s : Stp) : stepN L s = stepN (normL L) s := by
  unfold stepN
  rw [check_perm (normL_perm L), normL_norm]
theorem mv_none {L : List Nd} (hr : RightG L) {id p : Int} {r : Nat → Int} (h : findN L id = none) : stepN L (mvS id p r) = (12, []) := by
  have hN := norm_right hr
  have hown : setV (normL L) (ownV L) = normL L := setV_own (normL_perm L) hr.uni fun _ _ => rfl
  have hs := step_setV (N := normL L) (V := ownV L) (x := ⟨id, 0, p, [], [], r⟩) (r := false) (normL_norm L) (by rw [hown]; exact hN)
  rw [hown, findN_norm, h] at hs
  rw [step_norm]
  exact hs
theorem mv_src {L : List Nd} (hr : RightG L) {id p : Int} {r : Nat → Int} {n : Nd} (h : findN L id = some n) (hk : n.kind = 0) : stepN L (mvS id p r) = (11, []) := by
  have hN := norm_right hr
  have hown : setV (normL L) (ownV L) = normL L := setV_own (normL_perm L) hr.uni fun _ _ => rfl
  have hs := step_setV (N := normL L) (V := ownV L) (x := ⟨id, 0, p, [], [], r⟩) (r := false) (normL_norm L) (by rw [hown]; exact hN)
  rw [hown, findN_norm, h] at hs
  simp only [if_pos hk] at hs
  rw [step_norm]
  exact hs
theorem own_right8 {L : List Nd} (hr : RightG L) {n : Nd} (hn : n ∈ L) : right8 n.par n.rt = true := (nodeB_iff.1 (hr.each n hn)).2.2.2.1
theorem mv_some {L : List Nd} (hr : RightG L) {id p : Int} {r : Nat → Int} {n : Nd} (h : findN L id = some n) (hk : n.kind ≠ 0) : (stepN L (mvS id p r)).1 = if right8 p r = true then 0 else 10 := by
  have hN := norm_right hr
  have hown : setV (normL L) (ownV L) = normL L := setV_own (normL_perm L) hr.uni fun _ _ => rfl
  have hs := step_setV (N := normL L) (V := ownV L) (x := ⟨id, 0, p, [], [], r⟩) (r := false) (normL_norm L) (by rw [hown]; exact hN)
  rw [hown, findN_norm, h] at hs
  simp only [if_neg hk] at hs
  rw [step_norm]
  show (stepN (normL L) ⟨4, ⟨id, 0, p, [], [], r⟩, false⟩).1 = _
  rw [hs]
  have hid := findN_id h
  have hmem := normL_mem.2 (findN_mem h)
  have key : RightG (setV (normL L) (putV (ownV L) ⟨id, 0, p, [], [], r⟩)) ↔ right8 p r = true := by
    rw [right_setV hN]
    constructor
    · intro ha
      have := ha n hmem
      unfold putV at this
      rw [if_pos hid] at this
      exact this
    · intro hp m hm
      unfold putV
      by_cases e : m.id = id
      · rw [if_pos e]; exact hp
      · rw [if_neg e]
        have hm' := normL_mem.1 hm
        have : getN L m.id = m := getN_some (findN_one hr.uni hm')
        unfold ownV
        simp only [this]
        exact own_right8 hr hm'
  unfold endN
  simp only [ne_eq, not_true_eq_false, if_false]
  by_cases hp : right8 p r = true
  · rw [if_pos hp, if_neg (by rw [checkN_zero.2 (key.2 hp)]; simp)]
  · have hten := checkN_ten (L := setV (normL L) (putV (ownV L) ⟨id, 0, p, [], [], r⟩)) (by unfold setV; rw [List.length_map, normL_len]; exact hr.len) (fun hc => hp (key.1 hc))
    rw [if_neg hp, hten, if_pos (by decide)]
theorem applyR_mv {L : List Nd} (hr : RightG L) {id p : Int} {r : Nat → Int} {n : Nd} (h : findN L id = some n) (hk : n.kind ≠ 0) (h8 : right8 p r = true) : applyR L [mvS id p r] = (0, 0, updN L id (rtN p r)) := by
  have h1 : (stepN L (mvS id p r)).1 = 0 := by rw [mv_some hr h hk, if_pos h8]
  have hc : checkN L = 0 := checkN_zero.2 hr
  have h2 := (step_agree (List.Perm.refl L) (mvS id p r)).1
  rw [h1] at h2
  have h3 : stepR L (mvS id p r) = endR (0, updN L id (rtN p r)) := by
    unfold stepR
    rw [if_neg (by rw [hc]; simp), if_neg (by simp [mvS])]
    unfold chgN
    simp only [mvS]
    rw [h]
    simp [hk]
  have h4 : stepR L (mvS id p r) = (0, updN L id (rtN p r)) := by
    rw [h3] at h2 ⊢
    unfold endR at h2 ⊢
    simp only [ne_eq, not_true_eq_false, if_false] at h2 ⊢
    by_cases c : checkN (updN L id (rtN p r)) = 0
    · rw [if_neg (by simpa using c)]
    · rw [if_pos c] at h2
      exact absurd h2.symm c
  unfold applyR
  rw [if_neg (by rw [hc]; simp), if_neg (by simp)]
  simp [goR, h4]
theorem upd_at {L : List Nd} {id : Int} {f : Nd → Nd} {k : Nat} {n : Nd} (h : L[k]? = some n) (e : n.id = id) : (updN L id f)[k]? = some (f n) := by
  unfold updN
  rw [List.getElem?_map, h]
  simp [e]
theorem ix_upd {L : List Nd} {id : Int} {f : Nd → Nd} (hf : ∀ n, (f n).id = n.id) : ixN (updN L id f) id = ixN L id := by
  unfold ixN updN
  rw [List.findIdx?_map]
  have : ((fun x => decide (x.id = id)) ∘ fun n => if n.id = id then f n else n) = fun x : Nd => decide (x.id = id) := by
    funext n
    simp only [Function.comp]
    by_cases e : n.id = id
    · simp [e, hf]
    · simp [e]
  rw [this]
theorem even_right {p : Int} (h : 1 ≤ p ∧ p ≤ 3) : right8 p (evenR p) = true := by
  unfold right8
  rw [decide_eq_true h, Bool.true_and]
  refine inTo_all fun k hk => ?_
  unfold evenR clampP
  rw [if_neg (by omega), if_neg (by omega)]
  obtain ⟨h1, h2⟩ := h
  have : p = 1 ∨ p = 2 ∨ p = 3 := by omega
  rcases this with rfl | rfl | rfl <;> omega
theorem even_wrong {p : Int} {r : Nat → Int} (h : ¬ (1 ≤ p ∧ p ≤ 3)) : right8 p r = false := by
  unfold right8
  rw [decide_eq_false h]
  rfl
theorem merge_right {p t : Int} {r : Nat → Int} {xs : List Int} (h : right8 p r = true) (ht : 0 ≤ t ∧ t < p) : right8 p (mergeR r xs t) = true := by
  unfold right8 at h ⊢
  rw [Bool.and_eq_true] at h ⊢
  refine ⟨h.1, inTo_all fun k hk => ?_⟩
  have := inTo_get h.2 hk
  unfold mergeR
  split
  · exact ht
  · exact this
theorem merge_in {p t : Int} {r : Nat → Int} {xs : List Int} (h : right8 p r = true) (ht : 0 ≤ t ∧ t < p) (k : Nat) : mergeR r xs t k = if hasI xs k = true then t else r k := by
  unfold mergeR
  have h3 : p ≤ 3 := by
    unfold right8 at h
    rw [Bool.and_eq_true] at h
    exact (of_decide_eq_true h.1).2
  rw [hasJ]
  by_cases c : hasI xs k = true
  · rw [if_pos ⟨ht.1, by omega, c⟩, if_pos c]
  · rw [if_neg (fun hc => c hc.2.2), if_neg c]
/-- What a question is told: by Rescale, by Migrate. -/
def wantN (L : List Nd) (id : Int) : Int := if checkN L ≠ 0 then 10 else match findN L id with
  | none => 12
  | some n => if n.kind = 0 then 11 else 0
def wantA (L : List Nd) (id par : Int) : Int := if wantN L id = 0 ∧ (par < 1 ∨ 3 < par) then 10 else wantN L id
def wantB (L : List Nd) (id t : Int) : Int := if wantN L id = 0 ∧ (t < 0 ∨ (getN L id).par ≤ t) then 11 else wantN L id
theorem want_none {L : List Nd} {id : Int} (h : checkN L = 0) (hf : findN L id = none) : wantN L id = 12 := by unfold wantN; rw [if_neg (by rw [h]; simp), hf]
theorem want_src {L : List Nd} {id : Int} {n : Nd} (h : checkN L = 0) (hf : findN L id = some n) (hk : n.kind = 0) : wantN L id = 11 := by unfold wantN; rw [if_neg (by rw [h]; simp), hf]; simp [hk]
theorem want_ok {L : List Nd} {id : Int} {n : Nd} (h : checkN L = 0) (hf : findN L id = some n) (hk : n.kind ≠ 0) : wantN L id = 0 := by unfold wantN; rw [if_neg (by rw [h]; simp), hf]; simp [hk]
theorem step_bad {L : List Nd} (h : checkN L ≠ 0) (s : Stp) : (stepN L s).1 = 10 := by unfold stepN; rw [if_pos h]
theorem rescale_says (L : List Nd) (id par : Int) : (stepN L (mvS id par (evenR par))).1 = wantA L id par := by
  unfold wantA
  by_cases hc : checkN L = 0
  · have hr := checkN_zero.1 hc
    cases hf : findN L id with
    | none => rw [want_none hc hf, mv_none hr hf]; simp
    | some n =>
      by_cases hk : n.kind = 0
      · rw [want_src hc hf hk, mv_src hr hf hk]; simp
      · rw [want_ok hc hf hk, mv_some hr hf hk]
        by_cases hp : 1 ≤ par ∧ par ≤ 3
        · rw [if_pos (even_right hp), if_neg (by omega)]
        · rw [even_wrong hp, if_neg (by simp), if_pos (by omega)]
  · have hw : wantN L id = 10 := by unfold wantN; rw [if_pos hc]
    rw [step_bad hc, hw]; simp
theorem migrate_says (L : List Nd) (id t : Int) (xs : List Int) :
    (if migB (stepN L (mvS id (getN L id).par (mergeR (getN L id).rt xs t))).1 (checkN L) t (getN L id).par then 11 else (stepN L (mvS id (getN L id).par (mergeR (getN L id).rt xs t))).1) = wantB L id t := by
  unfold wantB
  by_cases hc : checkN L = 0
  · have hr := checkN_zero.1 hc
    cases hf : findN L id with
    | none => rw [want_none hc hf, mv_none hr hf]; simp [migB]
    | some n =>
      by_cases hk : n.kind = 0
      · rw [want_src hc hf hk, mv_src hr hf hk]; simp [migB]
      · have hg : getN L id = n := getN_some hf
        rw [want_ok hc hf hk, mv_some hr hf hk, hg, hc]
        by_cases ht : 0 ≤ t ∧ t < n.par
        · rw [if_pos (merge_right (own_right8 hr (findN_mem hf)) ht), if_neg (show ¬ ((0 : Int) = 0 ∧ (t < 0 ∨ n.par ≤ t)) by omega)]
          have h1 : decide (t < 0) = false := by simp; omega
          have h2 : decide (n.par ≤ t) = false := by simp; omega
          simp [migB, h1, h2]
        · rw [if_pos (show (0 : Int) = 0 ∧ (t < 0 ∨ n.par ≤ t) by omega)]
          have hor : (decide (t < 0) || decide (n.par ≤ t)) = true := by rcases (show t < 0 ∨ n.par ≤ t by omega) with h | h <;> simp [h]
          cases right8 n.par (mergeR n.rt xs t) <;> simp [migB, hor]
  · have hw : wantN L id = 10 := by unfold wantN; rw [if_pos hc]
    rw [step_bad hc, hw]
    simp [migB, hc]
/-- What a question that is answered leads to. -/
theorem moved_there {L : List Nd} {id p : Int} {r : Nat → Int} (hw : wantN L id = 0) (h8 : right8 p r = true) : ∃ (k : Nat) (n : Nd), RightG L ∧ ixN L id = (k : Int) ∧ L[k]? = some n ∧ getN L id = n ∧ n.kind ≠ 0 ∧ applyR L [mvS id p r] = (0, 0, updN L id (rtN p r)) ∧ ixN (updN L id (rtN p r)) id = (k : Int) ∧ (updN L id (rtN p r))[k]? = some (rtN p r n) := by
  unfold wantN at hw
  by_cases hc : checkN L = 0
  · rw [if_neg (by simpa using hc)] at hw
    have hr := checkN_zero.1 hc
    rcases ixN_cases L id with ⟨h1, h2⟩ | ⟨k, n, h1, h2, h3⟩
    · rw [h2] at hw; simp at hw
    · rw [h3] at hw
      by_cases hk : n.kind = 0
      · simp [hk] at hw
      · exact ⟨k, n, hr, h1, h2, getN_some h3, hk, applyR_mv hr h3 hk h8, by rw [ix_upd (f := rtN p r) (fun _ => rfl)]; exact h1, upd_at h2 (findN_id h3)⟩
  · rw [if_pos hc] at hw; cases hw
end Go.Proofs.Ythncfkpamokomaa
