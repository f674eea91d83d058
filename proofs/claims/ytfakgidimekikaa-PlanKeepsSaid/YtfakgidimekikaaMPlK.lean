/- Texts merged into one, for the number of files a claim may have: PlK. -/
import Derived.Test.YtfakgidimekikaaMG
namespace Go.Proofs.Ytfakgidimekikaa
set_option linter.unusedVariables false
theorem chg_cln (N : List Nd) (s : Stp) (h : 1 ≤ s.kind ∧ s.kind ≤ 5) : chgN N (cleanS s) = chgN N s := by
  have hk : s.kind = 1 ∨ s.kind = 2 ∨ s.kind = 3 ∨ s.kind = 4 ∨ s.kind = 5 := by omega
  unfold chgN cleanS
  rcases hk with h | h | h | h | h <;> simp [h] <;> cases findN N s.nd.id <;> simp
theorem cln_kind (s : Stp) (h : 1 ≤ s.kind ∧ s.kind ≤ 5) : (cleanS s).kind = s.kind := by
  have hk : s.kind = 1 ∨ s.kind = 2 ∨ s.kind = 3 ∨ s.kind = 4 ∨ s.kind = 5 := by omega
  unfold cleanS
  rcases hk with h | h | h | h | h <;> simp [h]
theorem cln_bad (s : Stp) (h : ¬ (1 ≤ s.kind ∧ s.kind ≤ 5)) : (cleanS s).kind = 0 := by
  unfold cleanS
  rw [if_neg (by omega), if_neg (by omega), if_neg (by omega), if_neg (by omega), if_neg (by omega)]
theorem step_cln (L : List Nd) (s : Stp) : stepN L (cleanS s) = stepN L s := by
  unfold stepN
  by_cases hc : checkN L ≠ 0
  · rw [if_pos hc, if_pos hc]
  · rw [if_neg hc, if_neg hc]
    by_cases h : 1 ≤ s.kind ∧ s.kind ≤ 5
    · rw [cln_kind s h, if_neg (by omega), if_neg (by omega), chg_cln _ s h]
    · rw [cln_bad s h, if_pos (by omega), if_pos (by omega)]
theorem go_cln : ∀ (P : List Stp) (i : Nat) (L : List Nd), goN i L (P.map cleanS) = goN i L P
  | [], _, _ => rfl
  | s :: P, i, L => by
    rw [List.map_cons]
    unfold goN
    rw [step_cln, go_cln P]
theorem apply_cln (L : List Nd) (P : List Stp) : applyN L (P.map cleanS) = applyN L P := by
  unfold applyN
  rw [List.length_map, go_cln]
/-- The source is there. -/
theorem src_there {L : List Nd} (h : RightG L) : ∃ n, findN L 0 = some n ∧ n.kind = 0 := by
  obtain ⟨n, hn⟩ := findN_ids.2 h.zero
  refine ⟨n, hn, ?_⟩
  have := (nodeB_iff.1 (h.each n (findN_mem hn))).2.2.1
  exact (kindB_zero this).1 (findN_id hn)
theorem find_upd_ne {N : List Nd} {id : Int} {f : Nd → Nd} (hf : ∀ n, (f n).id = n.id) {k : Int} (hk : k ≠ id) : findN (updN N id f) k = findN N k := by
  unfold findN updN
  rw [List.find?_map]
  have : ((fun x : Nd => decide (x.id = k)) ∘ fun n => if n.id = id then f n else n) = fun x : Nd => decide (x.id = k) := by
    funext n
    simp only [Function.comp]
    by_cases e : n.id = id
    · simp [e, hf]
    · simp [e]
  rw [this]
  cases hq : N.find? (fun x : Nd => decide (x.id = k)) with
  | none => rfl
  | some n =>
    have : n.id = k := by simpa using List.find?_some hq
    simp [this, hk]
theorem find_del_ne {N : List Nd} {id k : Int} (hk : k ≠ id) : findN (delN N id) k = findN N k := by
  unfold findN delN
  rw [List.find?_filter]
  congr 1
  funext n
  by_cases e : n.id = k
  · simp [e, hk]
  · simp [e]
theorem chg_src {N : List Nd} (hr : RightG N) {s : Stp} (hk : 1 ≤ s.kind ∧ s.kind ≤ 5) (h : (chgN N s).1 = 0) : findN (chgN N s).2 0 = findN N 0 := by
  obtain ⟨n0, h0, hk0⟩ := src_there hr
  unfold chgN at h ⊢
  cases hf : findN N s.nd.id with
  | none =>
    rw [hf] at h
    simp only at h ⊢
    have hne : s.nd.id ≠ 0 := fun e => by rw [e, h0] at hf; cases hf
    by_cases h2 : s.kind = 2
    · rw [if_pos h2] at h ⊢
      by_cases h3 : s.nd.kind = 0
      · rw [if_pos h3] at h; cases h
      · rw [if_neg h3]
        simp only
        rw [findN_app, h0]
    · rw [if_neg h2] at h; cases h
  | some n =>
    rw [hf] at h
    simp only at h ⊢
    have hne : n.kind ≠ 0 → s.nd.id ≠ 0 := fun hn e => by
      rw [e, h0] at hf
      injection hf with hf
      rw [← hf] at hn
      exact hn hk0
    by_cases h2 : s.kind = 2
    · rw [if_pos h2] at h; cases h
    rw [if_neg h2] at h ⊢
    by_cases h1 : s.kind = 1
    · rw [if_pos h1] at h ⊢
      by_cases c : n.kind = 1
      · rw [if_pos c] at h ⊢
        by_cases d : (chkL s.nd.pg).isSome = true
        · rw [if_pos d]
          exact find_upd_ne (f := pgN s.nd.pg) (fun _ => rfl) (Ne.symm (hne (by omega)))
        · rw [if_neg d] at h; cases h
      · rw [if_neg c] at h; cases h
    rw [if_neg h1] at h ⊢
    by_cases h3 : s.kind = 3
    · rw [if_pos h3] at h ⊢
      by_cases c : n.kind = 0 ∨ (childN N s.nd.id).length ≠ 0
      · rw [if_pos c] at h; cases h
      · rw [if_neg c]
        exact find_del_ne (Ne.symm (hne (fun e => c (.inl e))))
    rw [if_neg h3] at h ⊢
    by_cases h4 : s.kind = 4
    · rw [if_pos h4] at h ⊢
      by_cases c : n.kind = 0
      · rw [if_pos c] at h; cases h
      · rw [if_neg c]
        exact find_upd_ne (f := rtN s.nd.par s.nd.rt) (fun _ => rfl) (Ne.symm (hne c))
    rw [if_neg h4] at h ⊢
    by_cases c : n.kind = 2
    · rw [if_pos c]
      exact find_upd_ne (f := frN s.nd.fr) (fun _ => rfl) (Ne.symm (hne (by omega)))
    · rw [if_neg c] at h; cases h
theorem step_src {L : List Nd} {s : Stp} (h : (stepN L s).1 = 0) : RightG (stepN L s).2 ∧ findN (stepN L s).2 0 = findN L 0 := by
  unfold stepN at h ⊢
  by_cases hc : checkN L ≠ 0
  · rw [if_pos hc] at h; cases h
  rw [if_neg hc] at h ⊢
  have hr := checkN_zero.1 (Decidable.not_not.1 hc)
  by_cases hk : s.kind < 1 ∨ 5 < s.kind
  · rw [if_pos hk] at h; cases h
  rw [if_neg hk] at h ⊢
  obtain ⟨h1, h2, h3⟩ := end_ok h
  rw [h3]
  refine ⟨norm_right h2, ?_⟩
  simp only
  rw [findN_norm, chg_src (norm_right hr) (by omega) h1, findN_norm]
theorem go_src : ∀ (P : List Stp) (i : Nat) (L : List Nd), RightG L → (goN i L P).1 = 0 → RightG (goN i L P).2.2 ∧ findN (goN i L P).2.2 0 = findN L 0
  | [], _, L, hr, _ => ⟨hr, rfl⟩
  | s :: P, i, L, hr, h => by
    unfold goN at h ⊢
    by_cases c : (stepN L s).1 ≠ 0
    · rw [if_pos c] at h; exact absurd h c
    · rw [if_neg c] at h ⊢
      obtain ⟨a, b⟩ := step_src (Decidable.not_not.1 c)
      obtain ⟨a2, b2⟩ := go_src P (i + 1) _ a h
      exact ⟨a2, b2.trans b⟩
theorem apply_src {L : List Nd} {P : List Stp} (h : (applyN L P).1 = 0) : RightG L ∧ RightG (applyN L P).2.2 ∧ findN (applyN L P).2.2 0 = findN L 0 := by
  unfold applyN at h ⊢
  by_cases hc : checkN L ≠ 0
  · rw [if_pos hc] at h; cases h
  rw [if_neg hc] at h ⊢
  have hr := checkN_zero.1 (Decidable.not_not.1 hc)
  by_cases hk : P.length < 1 ∨ 6 < P.length
  · rw [if_pos hk] at h; cases h
  rw [if_neg hk] at h ⊢
  exact ⟨hr, go_src P 0 L hr h⟩
/-- What a step leaves stands by numbers. -/
theorem step_norml {L : List Nd} {s : Stp} (h : (stepN L s).1 = 0) : normL (stepN L s).2 = (stepN L s).2 := by
  unfold stepN at h ⊢
  by_cases hc : checkN L ≠ 0
  · rw [if_pos hc] at h; cases h
  rw [if_neg hc] at h ⊢
  by_cases hk : s.kind < 1 ∨ 5 < s.kind
  · rw [if_pos hk] at h; cases h
  rw [if_neg hk] at h ⊢
  obtain ⟨_, _, h3⟩ := end_ok h
  rw [h3]
  exact normL_norm _
theorem go_norml : ∀ (P : List Stp) (i : Nat) (L : List Nd), normL L = L → (goN i L P).1 = 0 → normL (goN i L P).2.2 = (goN i L P).2.2
  | [], _, L, hn, _ => hn
  | s :: P, i, L, hn, h => by
    unfold goN at h ⊢
    by_cases c : (stepN L s).1 ≠ 0
    · rw [if_pos c] at h; exact absurd h c
    · rw [if_neg c] at h ⊢
      exact go_norml P (i + 1) _ (step_norml (Decidable.not_not.1 c)) h
theorem apply_norml {L : List Nd} {P : List Stp} (h : (applyN L P).1 = 0) : normL (applyN L P).2.2 = (applyN L P).2.2 := by
  unfold applyN at h ⊢
  by_cases hc : checkN L ≠ 0
  · rw [if_pos hc] at h; cases h
  rw [if_neg hc] at h ⊢
  by_cases hk : P.length < 1 ∨ 6 < P.length
  · rw [if_pos hk] at h; cases h
  rw [if_neg hk] at h ⊢
  cases P with
  | nil => simp at hk
  | cons s P =>
    unfold goN at h ⊢
    by_cases c : (stepN L s).1 ≠ 0
    · rw [if_pos c] at h; exact absurd h c
    · rw [if_neg c] at h ⊢
      exact go_norml P 1 _ (step_norml (Decidable.not_not.1 c)) h
/-- Of a right graph by numbers each number is greater than the one before. -/
theorem rises_at {L : List Nd} (hr : RightG L) (hn : normL L = L) {i : Nat} {x y : Nd} (hx : L[i]? = some x) (hy : L[i + 1]? = some y) : x.id < y.id := by
  have hs := normL_sorted L
  rw [hn] at hs
  obtain ⟨i1, e1⟩ := List.getElem?_eq_some_iff.1 hx
  obtain ⟨i2, e2⟩ := List.getElem?_eq_some_iff.1 hy
  have h1 := List.pairwise_iff_getElem.1 hs i (i + 1) i1 i2 (by omega)
  have h2 : x.id ≠ y.id := fun e => by
    have := id_at hr.uni hx hy e
    omega
  rw [e1, e2] at h1
  have h1 : x.id ≤ y.id := by simpa [leN] using h1
  omega
theorem same_self (L : List Nd) : sameL L L = true := by
  have h := same_norm (L := L)
  unfold sameL at h ⊢
  rw [normL_norm] at h
  exact h
theorem same_norm' (L : List Nd) : sameL L (normL L) = true := by
  have h := same_self L
  unfold sameL at h ⊢
  rw [normL_norm]
  exact h
end Go.Proofs.Ytfakgidimekikaa
