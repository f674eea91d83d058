/- Texts merged into one, for the number of files a claim may have: Join. -/
import Derived.Test.YtfakgidimekikaaGreatMChk
namespace Go.Proofs.YtfakgidimekikaaGreat
open Go.RowKit Go.Fb
/-- The same below m. -/
def AgreeB (m : Nat) (s s' : CS) : Prop := ∀ x, x < m → s.D x = s'.D x ∧ s.E x = s'.E x
theorem AgreeB.come {n m : Nat} (hm : m ≤ n) {s s' s1 : CS} (R : AgreeB m s s') {t : Nat} {d e : Int} (h : comeF n s t d e = some s1) : ∃ s1', comeF m s' (min t m) d e = some s1' ∧ AgreeB m s1 s1' := by
  unfold comeF at h ⊢
  split at h
  · cases h
  · rename_i h1
    rw [if_neg h1]
    by_cases ht : t < m
    · rw [show min t m = t by omega, if_neg (by omega)]
      rw [if_neg (by omega)] at h
      obtain ⟨a, b⟩ := R t ht
      rw [← a, ← b]
      split at h
      · cases h
      · rename_i h2
        rw [if_neg h2]
        injection h with h; subst h
        refine ⟨_, rfl, fun x hx => ?_⟩
        simp only [updC]
        split
        · exact ⟨rfl, rfl⟩
        · exact R x hx
    · rw [show min t m = m by omega, if_pos rfl]
      refine ⟨_, rfl, fun x hx => ?_⟩
      split at h
      · injection h with h; subst h
        exact R x hx
      · split at h
        · cases h
        · injection h with h; subst h
          simp only [updC]
          rw [if_neg (by omega), if_neg (by omega)]
          exact R x hx
theorem AgreeB.comes {n m : Nat} (hm : m ≤ n) {d e : Int} : ∀ (l : List Nat) {s s' s1 : CS}, AgreeB m s s' → comesF n d e l s = some s1 → ∃ s1', comesF m d e (l.map (min · m)) s' = some s1' ∧ AgreeB m s1 s1'
  | [], s, s', s1, R, h => by injection h with h; subst h; exact ⟨s', rfl, R⟩
  | t :: l, s, s', s1, R, h => by
    unfold comesF at h
    split at h
    · cases h
    · rename_i s2 h2
      obtain ⟨s2', h2', R2⟩ := R.come hm h2
      obtain ⟨s1', h1', R1⟩ := AgreeB.comes hm l R2 h
      refine ⟨s1', ?_, R1⟩
      simp only [List.map_cons, comesF, h2']
      exact h1'
theorem nextsF_min {n m k : Nat} (hm : m ≤ n) (hk : k < m) (i : Int × Int) : nextsF m k i = (nextsF n k i).map (min · m) := by
  unfold nextsF farF
  by_cases h0 : i.1 = 0
  · simp [h0]
  · by_cases h1 : i.1 = 16
    · simp [h1]; omega
    · by_cases h2 : i.1 = 15
      · simp [h2]; omega
      · simp [h0, h1, h2]; omega
theorem AgreeB.use {m : Nat} {s s' : CS} (R : AgreeB m s s') (i : Int × Int) : AgreeB m (useF s i) (useF s' i) := by
  unfold useF; split
  · split <;> exact R
  · exact R
/-- Each beginning of a safe program is safe. -/
theorem check_prefix {n m : Nat} (hm : m ≤ n) {p : Nat → Int × Int} : ∀ {k : Nat} {s : CS}, k ≤ m → checkF n p k = some s → ∃ s', checkF m p k = some s' ∧ AgreeB m s s'
  | 0, s, _, h => by
    injection h with h; subst h
    refine ⟨_, rfl, fun x hx => ⟨?_, rfl⟩⟩
    simp only [startF]
    rw [if_neg (show ¬ n = 0 by omega), if_neg (show ¬ m = 0 by omega)]
  | k + 1, s, hk, h => by
    unfold checkF at h ⊢
    split at h
    · cases h
    · rename_i s1 h1
      obtain ⟨s1', h1', R⟩ := check_prefix hm (by omega) h1
      rw [h1']
      obtain ⟨a, b⟩ := R k (by omega)
      split at h
      · rename_i h2
        injection h with h; subst h
        exact ⟨s1', by simp only [← a, if_pos h2], R⟩
      · rename_i h2
        simp only [← a, if_neg h2]
        unfold stepF at h ⊢
        split at h
        · cases h
        · rename_i h3
          rw [← a, if_neg h3]
          obtain ⟨s2', h2', R2⟩ := (R.use (p k)).comes hm _ h
          rw [← nextsF_min hm (by omega)] at h2'
          refine ⟨s2', ?_, R2⟩
          unfold emF at h2' ⊢
          rw [← b]
          exact h2'
theorem check_of_prefix {n : Nat} {p : Nat → Int × Int} : ∀ {m k : Nat} {s : CS}, k ≤ m → checkF n p m = some s → ∃ s', checkF n p k = some s'
  | 0, k, s, hk, h => by
    obtain rfl : k = 0 := by omega
    exact ⟨s, h⟩
  | m + 1, k, s, hk, h => by
    by_cases he : k = m + 1
    · subst he; exact ⟨s, h⟩
    · have h0 := h
      unfold checkF at h
      split at h
      · cases h
      · rename_i s1 h1
        exact check_of_prefix (by omega) h1
theorem safe_prefix {n m : Nat} (hm : m ≤ n) {p : Nat → Int × Int} {s : CS} (h : checkF n p n = some s) : ∃ s', checkF m p m = some s' := by
  obtain ⟨s1, h1⟩ := check_of_prefix hm h
  obtain ⟨s', h', _⟩ := check_prefix hm (Nat.le_refl _) h1
  exact ⟨s', h'⟩
/-- What the instructions up to k add to the depth. -/
def depF (p : Nat → Int × Int) : Nat → Int
  | 0 => 0
  | k + 1 => depF p k + (leavesF (p k).1 - takesF (p k).1)
/-- A program without jumps, gone through up to k. -/
structure Line (n : Nat) (p : Nat → Int × Int) (k : Nat) (s : CS) : Prop where
  d : k < n → s.D k = depF p k
  e : k < n → s.E k = s.em
  fresh : ∀ x, k < x → s.D x = -1 ∧ s.E x = 0
  pos : 0 ≤ depF p k
def plainOp (i : Int × Int) : Prop := i.1 ≠ 0 ∧ i.1 ≠ 15 ∧ i.1 ≠ 16
/-- Both runs of a program without jumps: alone, and with more behind it. -/
theorem line_both {np nq : Nat} {p b : Nat → Int × Int} (hb : ∀ j, j < np → b j = p j) (hl : ∀ j, j < np → plainOp (p j)) : ∀ {k : Nat} {s : CS}, k ≤ np → checkF np p k = some s → ∃ s', checkF (np + nq) b k = some s' ∧ Line np p k s ∧ Line (np + nq) p k s' ∧ s'.mx = s.mx ∧ s'.em = s.em
  | 0, s, _, h => by
    injection h with h; subst h
    refine ⟨_, rfl, ⟨fun h => ?_, fun _ => rfl, fun x hx => ⟨?_, rfl⟩, Int.le_refl _⟩, ⟨fun h => ?_, fun _ => rfl, fun x hx => ⟨?_, rfl⟩, Int.le_refl _⟩, rfl, rfl⟩
    · show (if np = 0 then (-1 : Int) else if 0 = 0 then 0 else -1) = 0; rw [if_neg (by omega), if_pos rfl]
    · simp only [startF]; split
      · rfl
      · rw [if_neg (by omega)]
    · show (if np + nq = 0 then (-1 : Int) else if 0 = 0 then 0 else -1) = 0; rw [if_neg (by omega), if_pos rfl]
    · simp only [startF]; split
      · rfl
      · rw [if_neg (by omega)]
  | k + 1, s, hk, h => by
    unfold checkF at h ⊢
    split at h
    · cases h
    · rename_i s1 h1
      obtain ⟨s1', h1', L, L', e1, e2⟩ := line_both hb hl (by omega) h1
      rw [h1']
      have IV := (checkF_inv (by omega) h1).em
      have a := L.d (by omega)
      have a' := L'.d (by omega)
      have c := L.e (by omega)
      have c' := L'.e (by omega)
      have hp := L.pos
      rw [if_neg (by omega)] at h
      simp only
      rw [if_neg (by omega)]
      obtain ⟨g1, g2, g3⟩ := hl k (by omega)
      unfold stepF at h ⊢
      rw [hb k (by omega)]
      split at h
      · cases h
      · rename_i h3
        rw [if_neg (by omega)]
        have hn : nextsF np k (p k) = [k + 1] := by unfold nextsF; rw [if_neg g1, if_neg g3, if_neg g2]
        have hn' : nextsF (np + nq) k (p k) = [k + 1] := by unfold nextsF; rw [if_neg g1, if_neg g3, if_neg g2]
        rw [hn] at h
        rw [hn']
        have lr := leavesF_range (p k).1
        have hu : (useF s1 (p k)).D = s1.D ∧ (useF s1 (p k)).E = s1.E ∧ (useF s1 (p k)).mx = s1.mx ∧ (useF s1 (p k)).em = s1.em := by unfold useF; split; (split <;> exact ⟨rfl, rfl, rfl, rfl⟩); exact ⟨rfl, rfl, rfl, rfl⟩
        have hu' : (useF s1' (p k)).D = s1'.D ∧ (useF s1' (p k)).E = s1'.E ∧ (useF s1' (p k)).mx = s1'.mx ∧ (useF s1' (p k)).em = s1'.em := by unfold useF; split; (split <;> exact ⟨rfl, rfl, rfl, rfl⟩); exact ⟨rfl, rfl, rfl, rfl⟩
        have hem : emF s1' k (p k) = emF s1 k (p k) := by unfold emF; rw [c, c', e2]
        have hge : s1.em ≤ emF s1 k (p k) := by unfold emF; rw [c]; split <;> omega
        have hd : s1'.D k = s1.D k := by rw [a, a']
        rw [hem, hd]
        generalize useF s1 (p k) = t at *
        generalize useF s1' (p k) = t' at *
        generalize emF s1 k (p k) = e at *
        obtain ⟨t1, t2, t3, t4⟩ := hu
        obtain ⟨t1', t2', t3', t4'⟩ := hu'
        have F := L.fresh (k + 1) (by omega)
        have F' := L'.fresh (k + 1) (by omega)
        have hdep : depF p (k + 1) = s1.D k - takesF (p k).1 + leavesF (p k).1 := by show depF p k + _ = _; omega
        rw [← hdep] at h ⊢
        have hpos : 0 ≤ depF p (k + 1) := by omega
        clear hdep
        unfold comesF comeF at h ⊢
        split at h
        · cases h
        · rename_i s2 h2
          injection h with h; subst h
          split at h2
          · cases h2
          · rename_i h4
            rw [if_neg h4]
            by_cases hend : k + 1 = np
            · rw [if_pos hend] at h2
              injection h2 with h2; subst h2
              by_cases hq : k + 1 = np + nq
              · rw [if_pos hq]
                refine ⟨_, rfl, ⟨fun h => by omega, fun h => by omega, fun x hx => ?_, hpos⟩, ⟨fun h => by omega, fun h => by omega, fun x hx => ?_, hpos⟩, ?_, ?_⟩
                · show t.D x = -1 ∧ t.E x = 0; rw [t1, t2]; exact L.fresh x (by omega)
                · show t'.D x = -1 ∧ t'.E x = 0; rw [t1', t2']; exact L'.fresh x (by omega)
                · show max _ _ = max _ _; rw [t3, t3', e1]
                · show max _ _ = max _ _; rw [t4, t4', e2]
              · rw [if_neg hq, t1', if_neg (by omega)]
                refine ⟨_, rfl, ⟨fun h => by omega, fun h => by omega, fun x hx => ?_, hpos⟩, ⟨fun _ => ?_, fun _ => ?_, fun x hx => ?_, hpos⟩, ?_, ?_⟩
                · show t.D x = -1 ∧ t.E x = 0; rw [t1, t2]; exact L.fresh x (by omega)
                · show updC _ _ _ _ = _; unfold updC; rw [if_pos rfl]
                · show updC _ _ _ _ = max _ _; unfold updC; rw [if_pos rfl, t2', t4']; omega
                · show updC _ _ _ _ = -1 ∧ updC _ _ _ _ = 0
                  unfold updC; rw [if_neg (by omega), if_neg (by omega), t2']; exact L'.fresh x (by omega)
                · show max _ _ = max _ _; rw [t3, t3', e1]
                · show max _ _ = max _ _; rw [t4, t4', e2]
            · rw [if_neg hend, t1, if_neg (by omega)] at h2
              injection h2 with h2; subst h2
              rw [if_neg (by omega), t1', if_neg (by omega)]
              refine ⟨_, rfl, ⟨fun _ => ?_, fun _ => ?_, fun x hx => ?_, hpos⟩, ⟨fun _ => ?_, fun _ => ?_, fun x hx => ?_, hpos⟩, ?_, ?_⟩
              · show updC _ _ _ _ = _; unfold updC; rw [if_pos rfl]
              · show updC _ _ _ _ = max _ _; unfold updC; rw [if_pos rfl, t2, t4]; omega
              · show updC _ _ _ _ = -1 ∧ updC _ _ _ _ = 0
                unfold updC; rw [if_neg (by omega), if_neg (by omega), t2]; exact L.fresh x (by omega)
              · show updC _ _ _ _ = _; unfold updC; rw [if_pos rfl]
              · show updC _ _ _ _ = max _ _; unfold updC; rw [if_pos rfl, t2', t4']; omega
              · show updC _ _ _ _ = -1 ∧ updC _ _ _ _ = 0
                unfold updC; rw [if_neg (by omega), if_neg (by omega), t2']; exact L'.fresh x (by omega)
              · show max _ _ = max _ _; rw [t3, t3', e1]
              · show max _ _ = max _ _; rw [t4, t4', e2]
theorem come_em {n : Nat} {s s1 : CS} {t : Nat} {d e : Int} (h : comeF n s t d e = some s1) : s.em ≤ s1.em ∧ e ≤ s1.em := by
  unfold comeF at h
  split at h
  · cases h
  · split at h
    · injection h with h; subst h; show s.em ≤ max _ _ ∧ e ≤ max _ _; omega
    · split at h
      · cases h
      · injection h with h; subst h; show s.em ≤ max _ _ ∧ e ≤ max _ _; omega
theorem comes_em {n : Nat} {d e : Int} : ∀ (l : List Nat) {s s1 : CS}, comesF n d e l s = some s1 → s.em ≤ s1.em
  | [], s, s1, h => by injection h with h; subst h; exact Int.le_refl _
  | t :: l, s, s1, h => by
    unfold comesF at h
    split at h
    · cases h
    · rename_i s2 h2
      have := (come_em h2).1
      have := comes_em l h
      omega
theorem use_em (s : CS) (i : Int × Int) : (useF s i).em = s.em ∧ (useF s i).mx = s.mx ∧ (useF s i).E = s.E ∧ (useF s i).D = s.D := by
  unfold useF; split; (split <;> exact ⟨rfl, rfl, rfl, rfl⟩); exact ⟨rfl, rfl, rfl, rfl⟩
theorem step_em {n : Nat} {p : Nat → Int × Int} {s s1 : CS} {k : Nat} (h : stepF n p s k = some s1) : s.em ≤ s1.em := by
  unfold stepF at h
  split at h
  · cases h
  · have := comes_em _ h
    rw [(use_em s (p k)).1] at this
    exact this
theorem check_em {n : Nat} {p : Nat → Int × Int} : ∀ {m k : Nat} {s s1 : CS}, k ≤ m → checkF n p k = some s → checkF n p m = some s1 → s.em ≤ s1.em
  | 0, k, s, s1, hk, h, h1 => by
    obtain rfl : k = 0 := by omega
    rw [h] at h1; injection h1 with h1; subst h1; exact Int.le_refl _
  | m + 1, k, s, s1, hk, h, h1 => by
    by_cases he : k = m + 1
    · subst he; rw [h] at h1; injection h1 with h1; subst h1; exact Int.le_refl _
    · unfold checkF at h1
      split at h1
      · cases h1
      · rename_i s2 h2
        have a := check_em (by omega) h h2
        split at h1
        · injection h1 with h1; subst h1; exact a
        · have := step_em h1; omega
/-- The second program's run, behind the first. -/
structure Joined (np nq : Nat) (mx em : Int) (t u : CS) : Prop where
  d : ∀ x, x < nq → u.D (np + x) = t.D x
  e1 : ∀ x, x < nq → t.D x ≠ -1 → u.E (np + x) = em + t.E x
  e0 : ∀ x, x < nq → t.D x = -1 → u.E (np + x) = 0 ∧ t.E x = 0
  m : u.mx = max mx t.mx
  em : u.em = em + t.em
theorem Joined.come {np nq : Nat} {mx em : Int} {t u t1 : CS} (J : Joined np nq mx em t u) (hem : 0 ≤ em) {x : Nat} {d e : Int} (hx : x ≤ nq) (hd : 0 ≤ d) (he : 0 ≤ e) (h : comeF nq t x d e = some t1) (h4 : em + t1.em ≤ 4) : ∃ u1, comeF (np + nq) u (np + x) d (em + e) = some u1 ∧ Joined np nq mx em t1 u1 := by
  have hle := come_em h
  have hm := J.m
  have hj := J.em
  unfold comeF at h ⊢
  split at h
  · cases h
  · rename_i h1
    rw [if_neg (by omega)]
    by_cases hxn : x = nq
    · rw [if_pos hxn] at h
      rw [if_pos (by omega)]
      injection h with h; subst h
      refine ⟨_, rfl, J.d, J.e1, J.e0, ?_, ?_⟩
      · show max u.mx d = max mx (max t.mx d); omega
      · show max u.em (em + e) = em + max t.em e; omega
    · rw [if_neg hxn] at h
      rw [if_neg (by omega), J.d x (by omega)]
      split at h
      · cases h
      · rename_i h2
        rw [if_neg h2]
        injection h with h; subst h
        refine ⟨_, rfl, fun y hy => ?_, fun y hy hD => ?_, fun y hy hD => ?_, ?_, ?_⟩
        · simp only [updC]
          by_cases c : y = x
          · rw [if_pos c, if_pos (by omega)]
          · rw [if_neg c, if_neg (by omega)]; exact J.d y hy
        · simp only [updC] at hD ⊢
          by_cases c : y = x
          · subst c
            rw [if_pos rfl, if_pos rfl]
            by_cases hm1 : t.D y = -1
            · obtain ⟨a, b⟩ := J.e0 y hy hm1
              rw [a, b]; omega
            · rw [J.e1 y hy hm1]; omega
          · rw [if_neg c] at hD
            rw [if_neg c, if_neg (by omega)]; exact J.e1 y hy hD
        · simp only [updC] at hD ⊢
          by_cases c : y = x
          · rw [if_pos c] at hD; omega
          · rw [if_neg c] at hD
            rw [if_neg c, if_neg (by omega)]; exact J.e0 y hy hD
        · show max u.mx d = max mx (max t.mx d); omega
        · show max u.em (em + e) = em + max t.em e; omega
theorem Joined.comes {np nq : Nat} {mx em : Int} (hem : 0 ≤ em) {d e : Int} (hd : 0 ≤ d) (he : 0 ≤ e) : ∀ (l : List Nat) {t u t1 : CS}, (∀ x ∈ l, x ≤ nq) → Joined np nq mx em t u → comesF nq d e l t = some t1 → em + t1.em ≤ 4 → ∃ u1, comesF (np + nq) d (em + e) (l.map (np + ·)) u = some u1 ∧ Joined np nq mx em t1 u1
  | [], t, u, t1, _, J, h, _ => by injection h with h; subst h; exact ⟨u, rfl, J⟩
  | x :: l, t, u, t1, hl, J, h, h4 => by
    unfold comesF at h
    split at h
    · cases h
    · rename_i t2 h2
      have hle := comes_em l h
      obtain ⟨u2, g2, J2⟩ := J.come hem (hl x (by simp)) hd he h2 (by omega)
      obtain ⟨u1, g1, J1⟩ := Joined.comes hem hd he l (fun y hy => hl y (by simp [hy])) J2 h h4
      refine ⟨u1, ?_, J1⟩
      simp only [List.map_cons, comesF, g2]
      exact g1
theorem nextsF_shift (np nq k : Nat) (i : Int × Int) : nextsF (np + nq) (np + k) i = (nextsF nq k i).map (np + ·) := by
  unfold nextsF farF
  by_cases h0 : i.1 = 0
  · simp [h0]
  · by_cases h1 : i.1 = 16
    · simp [h1]; omega
    · by_cases h2 : i.1 = 15
      · simp [h2]; omega
      · simp [h0, h1, h2]; omega
theorem Joined.use {np nq : Nat} {mx em : Int} {t u : CS} (J : Joined np nq mx em t u) (i : Int × Int) : Joined np nq mx em (useF t i) (useF u i) := by
  obtain ⟨a1, a2, a3, a4⟩ := use_em t i
  obtain ⟨b1, b2, b3, b4⟩ := use_em u i
  refine ⟨?_, ?_, ?_, ?_, ?_⟩
  · rw [a4, b4]; exact J.d
  · rw [a4, b3, a3]; exact J.e1
  · rw [a4, b3, a3]; exact J.e0
  · rw [a2, b2]; exact J.m
  · rw [a1, b1]; exact J.em
theorem join_run {np nq : Nat} {p q b : Nat → Int × Int} (hbp : ∀ j, j < np → b j = p j) (hbq : ∀ j, j < nq → b (np + j) = q j) (hl : ∀ j, j < np → plainOp (p j)) {s t : CS} (hs : checkF np p np = some s) (ht : checkF nq q nq = some t) (hdep : depF p np = 0) (h4 : s.em + t.em ≤ 4) :
    ∀ {j : Nat} {tj : CS}, j ≤ nq → checkF nq q j = some tj → ∃ u, checkF (np + nq) b (np + j) = some u ∧ Joined np nq s.mx s.em tj u
  | 0, tj, _, h => by
    obtain ⟨s', h', L, L', e1, e2⟩ := line_both (nq := nq) hbp hl (Nat.le_refl _) hs
    have I := checkF_inv (Nat.le_refl _) hs
    injection h with h; subst h
    have hm := I.mx
    refine ⟨s', h', fun x hx => ?_, fun x hx hD => ?_, fun x hx hD => ?_, ?_, ?_⟩
    · by_cases c : x = 0
      · subst c
        rw [Nat.add_zero, L'.d (by omega), hdep]
        show (0 : Int) = if nq = 0 then -1 else if 0 = 0 then 0 else -1
        rw [if_neg (by omega), if_pos rfl]
      · rw [(L'.fresh (np + x) (by omega)).1]
        show (-1 : Int) = if nq = 0 then -1 else if x = 0 then 0 else -1
        rw [if_neg (show ¬ nq = 0 by omega), if_neg c]
    · have c : x = 0 := by
        by_cases c : x = 0
        · exact c
        · exfalso; apply hD
          show (if nq = 0 then (-1 : Int) else if x = 0 then 0 else -1) = -1
          rw [if_neg (show ¬ nq = 0 by omega), if_neg c]
      subst c
      rw [Nat.add_zero, L'.e (by omega), e2]
      show s.em = s.em + 0
      omega
    · have c : x ≠ 0 := by
        rintro rfl
        have hD : (if nq = 0 then (-1 : Int) else if 0 = 0 then 0 else -1) = -1 := hD
        rw [if_neg (show ¬ nq = 0 by omega), if_pos rfl] at hD
        omega
      exact ⟨(L'.fresh (np + x) (by omega)).2, rfl⟩
    · rw [e1]; show s.mx = max s.mx 0; omega
    · rw [e2]; show s.em = s.em + 0; omega
  | j + 1, tj, hj, h => by
    have hfin := check_em hj h ht
    have hem := (checkF_inv (Nat.le_refl _) hs).em
    unfold checkF at h
    split at h
    · cases h
    · rename_i t1 h1
      obtain ⟨u, hu, J⟩ := join_run hbp hbq hl hs ht hdep h4 (by omega) h1
      have I := checkF_inv (by omega) h1
      show ∃ u', (match checkF (np + nq) b (np + j) with | none => none | some s => if s.D (np + j) = -1 then some s else stepF (np + nq) b s (np + j)) = some u' ∧ _
      rw [hu]
      simp only [J.d j (by omega)]
      split at h
      · rename_i h2
        injection h with h; subst h
        exact ⟨u, by rw [if_pos h2], J⟩
      · rename_i h2
        rw [if_neg h2]
        have hE := J.e1 j (by omega) h2
        have hDr := I.d j
        unfold stepF at h ⊢
        rw [hbq j (by omega), J.d j (by omega)]
        split at h
        · cases h
        · rename_i h3
          rw [if_neg h3]
          have lr := leavesF_range (q j).1
          have er := emF_range I j (q j)
          obtain ⟨u1, g1, J1⟩ := (J.use (q j)).comes hem.1 (by omega) er.1 _ (nextsF_le (by omega) (q j)) h (by omega)
          refine ⟨u1, ?_, J1⟩
          rw [nextsF_shift]
          have : emF u (np + j) (q j) = s.em + emF t1 j (q j) := by unfold emF; rw [hE]; split <;> omega
          rw [this]
          exact g1
theorem fitsB_iff {l : List (Int × Int)} : fitsB l = true ↔ l.length ≤ 24 ∧ ∀ x ∈ l, rightB x = true := by
  unfold fitsB
  rw [Bool.and_eq_true, List.all_eq_true, decide_eq_true_eq]
theorem chkL_some {l : List (Int × Int)} {s : CS} (h : chkL l = some s) : fitsB l = true ∧ checkF l.length (pF l) l.length = some s := by
  unfold chkL at h
  by_cases hf : fitsB l = true
  · rw [if_pos hf] at h; exact ⟨hf, h⟩
  · rw [if_neg hf] at h; cases h
theorem chkL_mk {l : List (Int × Int)} {s : CS} (hf : fitsB l = true) (h : checkF l.length (pF l) l.length = some s) : chkL l = some s := by
  unfold chkL; rw [if_pos hf]; exact h
theorem check_congr {n : Nat} {p q : Nat → Int × Int} : ∀ {m : Nat}, (∀ j, j < m → p j = q j) → checkF n p m = checkF n q m
  | 0, _ => rfl
  | m + 1, h => by
    unfold checkF
    rw [check_congr (m := m) (fun j hj => h j (by omega))]
    split
    · rfl
    · unfold stepF
      rw [h m (by omega)]
theorem chk_prefix_l {l : List (Int × Int)} {s : CS} (h : chkL l = some s) (m : Nat) (hm : m ≤ l.length) : ∃ t, chkL (l.take m) = some t := by
  obtain ⟨hf, hc⟩ := chkL_some h
  obtain ⟨t, ht⟩ := safe_prefix hm hc
  have hl : (l.take m).length = m := by rw [List.length_take]; omega
  refine ⟨t, chkL_mk ?_ ?_⟩
  · rw [fitsB_iff] at hf ⊢
    exact ⟨by rw [hl]; omega, fun x hx => hf.2 x (List.mem_of_mem_take hx)⟩
  · rw [hl, ← ht]
    exact check_congr fun j hj => by unfold pF; rw [List.getD_eq_getElem?_getD, List.getD_eq_getElem?_getD, List.getElem?_take_of_lt hj]
theorem chk_join_l {l m : List (Int × Int)} {s t : CS} (hs : chkL l = some s) (ht : chkL m = some t) (hp : ∀ j, j < l.length → plainOp (pF l j)) (hd : depF (pF l) l.length = 0) (hlen : l.length + m.length ≤ 24) (h4 : s.em + t.em ≤ 4) :
    ∃ u, chkL (l ++ m) = some u ∧ u.mx = max s.mx t.mx ∧ u.em = s.em + t.em := by
  obtain ⟨f1, c1⟩ := chkL_some hs
  obtain ⟨f2, c2⟩ := chkL_some ht
  obtain ⟨u, hu, J⟩ := join_run (b := pF (l ++ m)) (fun j hj => by unfold pF; rw [List.getD_eq_getElem?_getD, List.getD_eq_getElem?_getD, List.getElem?_append_left hj]) (fun j _ => by unfold pF; rw [List.getD_eq_getElem?_getD, List.getD_eq_getElem?_getD, List.getElem?_append_right (by omega), Nat.add_sub_cancel_left]) hp c1 c2 hd h4 (Nat.le_refl _) c2
  refine ⟨u, chkL_mk ?_ ?_, J.m, J.em⟩
  · rw [fitsB_iff] at f1 f2 ⊢
    refine ⟨by rw [List.length_append]; exact hlen, fun x hx => ?_⟩
    rcases List.mem_append.1 hx with hx | hx
    · exact f1.2 x hx
    · exact f2.2 x hx
  · rw [List.length_append]; exact hu
theorem chk_range {l : List (Int × Int)} {s : CS} (h : chkL l = some s) : (0 ≤ s.mx ∧ s.mx ≤ 8) ∧ (0 ≤ s.em ∧ s.em ≤ 4) := by
  obtain ⟨_, c⟩ := chkL_some h
  have I := checkF_inv (Nat.le_refl _) c
  exact ⟨I.mx, I.em⟩
theorem depF_range (p : Nat → Int × Int) (k : Nat) : -(2 * k : Int) ≤ depF p k ∧ depF p k ≤ 2 * k := by
  induction k with
  | zero => simp [depF]
  | succ k ih =>
    have a := takesF_range (p k).1
    have b := leavesF_range (p k).1
    unfold depF
    push_cast
    omega
end Go.Proofs.YtfakgidimekikaaGreat
