/- The plain law of sink.Totals: each key once, with how many, and their sum. -/
import Derived.Test.YtdkdhhfejbecdaaTotMap
import Derived.Test.YtdkdhhfejbecdaaAdd
namespace Go.Proofs.Ytdkdhhfejbecdaa
open Go.RowKit Go.Fb
/-- The keys, as they come first. -/
def keysOf : List (Nat → Int) → List Pl
  | [] => []
  | x :: l => if keyL x ∈ keysOf l then keysOf l else keysOf l ++ [keyL x]
/-- A total's six numbers, and its value. -/
def totF (l : List (Nat → Int)) (p : Pl) (j : Nat) : Int :=
  if j = 0 then p.1 else if j = 1 then p.2.1 else if j = 2 then p.2.2 else if j = 3 then ((onlyV l p).length : Int) else if j = 4 then (sumV (onlyV l p)).1 else (sumV (onlyV l p)).2
def totV (l : List (Nat → Int)) (p : Pl) : Value := .agg #[.int .i64 p.1, .int .i64 p.2.1, .int .i64 p.2.2, .int .i64 ((onlyV l p).length : Nat), .int .i64 (sumV (onlyV l p)).1, .int .i64 (sumV (onlyV l p)).2]
/-- A list of keys, each once, all of those that lines have. -/
structure KeysOk (l : List (Nat → Int)) (K : List Pl) : Prop where
  nd : K.Nodup
  mem : ∀ p, p ∈ K ↔ onlyV l p ≠ []
theorem KeysOk.start : KeysOk [] [] := ⟨List.nodup_nil, fun p => by simp [onlyV]⟩
theorem KeysOk.step {l : List (Nat → Int)} {K : List Pl} (h : KeysOk l K) (x : Nat → Int) : KeysOk (l ++ [x]) (if keyL x ∈ K then K else K ++ [keyL x]) := by
  by_cases c : keyL x ∈ K
  · rw [if_pos c]
    refine ⟨h.nd, fun p => ?_⟩
    rw [onlyV_snoc]
    by_cases e : p = keyL x
    · rw [if_pos e, e]; exact ⟨fun _ => by simp, fun _ => c⟩
    · rw [if_neg e]; exact h.mem p
  · rw [if_neg c]
    refine ⟨?_, fun p => ?_⟩
    · rw [List.nodup_append]
      refine ⟨h.nd, by simp, fun a ha b hb e => ?_⟩
      rw [List.mem_singleton] at hb
      exact c (hb ▸ e ▸ ha)
    · rw [onlyV_snoc, List.mem_append, List.mem_singleton]
      by_cases e : p = keyL x
      · rw [if_pos e]; exact ⟨fun _ => by simp, fun _ => .inr e⟩
      · rw [if_neg e]
        constructor
        · rintro (h1 | h1)
          · exact (h.mem p).1 h1
          · exact absurd h1 e
        · exact fun h1 => .inl ((h.mem p).2 h1)
/-- What is kept: of each key what f says. -/
def keep (K : List Pl) (f : Pl → Value) : List (Pl × Value) := K.map fun p => (p, f p)
theorem findP_keep_no {K : List Pl} {f : Pl → Value} {k : Pl} (h : k ∉ K) : ∀ i, findP k (keep K f) i = none := by
  unfold keep
  induction K with
  | nil => intro i; rfl
  | cons a K ih =>
    intro i
    rw [List.map_cons, findP, if_neg (by simp at h; exact h.1)]
    exact ih (by simp at h; exact h.2) (i + 1)
theorem findP_keep_yes {K : List Pl} {f : Pl → Value} {k : Pl} (h : k ∈ K) : ∀ i, ∃ j, findP k (keep K f) i = some (i + j, f k) ∧ K[j]? = some k := by
  unfold keep
  induction K with
  | nil => cases h
  | cons a K ih =>
    intro i
    rw [List.map_cons, findP]
    by_cases c : k = a
    · subst c
      exact ⟨0, by rw [if_pos rfl]; rfl, rfl⟩
    · rw [if_neg c]
      obtain ⟨j, h1, h2⟩ := ih (by simp at h; exact h.resolve_left c) (i + 1)
      refine ⟨j + 1, ?_, h2⟩
      rw [h1, show i + 1 + j = i + (j + 1) by omega]
theorem getT_keep (K : List Pl) (f : Pl → Value) (k : Pl) : getT (keep K f) k = if k ∈ K then f k else totZ := by
  unfold getT
  by_cases c : k ∈ K
  · obtain ⟨j, h1, _⟩ := findP_keep_yes (f := f) c 0
    rw [h1, if_pos c]
  · rw [findP_keep_no c, if_neg c]
theorem putP_keep {K : List Pl} (hnd : K.Nodup) (f : Pl → Value) (k : Pl) (v : Value) : putP (keep K f) k v = keep (if k ∈ K then K else K ++ [k]) (fun p => if p = k then v else f p) := by
  unfold putP
  by_cases c : k ∈ K
  · obtain ⟨j, h1, h2⟩ := findP_keep_yes (f := f) c 0
    rw [h1, if_pos c]
    simp only [Nat.zero_add]
    unfold keep
    apply List.ext_getElem?
    intro i
    rw [List.getElem?_set, List.getElem?_map]
    have hj : j < K.length := by
      rcases Nat.lt_or_ge j K.length with h | h
      · exact h
      · rw [List.getElem?_eq_none h] at h2; cases h2
    by_cases e : j = i
    · subst e
      rw [if_pos rfl, List.length_map, if_pos hj, List.getElem?_map, h2]
      simp
    · rw [if_neg e, List.getElem?_map]
      cases hi : K[i]? with
      | none => rfl
      | some q =>
        have hq : q ≠ k := by
          rintro rfl
          have hil : i < K.length := by
            rcases Nat.lt_or_ge i K.length with h | h
            · exact h
            · rw [List.getElem?_eq_none h] at hi; cases hi
          rw [List.getElem?_eq_getElem hj] at h2
          rw [List.getElem?_eq_getElem hil] at hi
          injection h2 with h2
          injection hi with hi
          have hpw := List.pairwise_iff_getElem.1 hnd
          rcases Nat.lt_trichotomy j i with hlt | hlt | hlt
          · exact hpw j i hj hil hlt (h2.trans hi.symm)
          · exact e hlt
          · exact hpw i j hil hj hlt (hi.trans h2.symm)
        simp [hq]
  · rw [findP_keep_no c, if_neg c]
    show keep K f ++ [(k, v)] = _
    unfold keep
    rw [List.map_append]
    congr 1
    · apply List.map_congr_left
      intro q hq
      have : q ≠ k := fun e => c (e ▸ hq)
      show (q, f q) = (q, if q = k then v else f q)
      rw [if_neg this]
    · simp
theorem keep_congr {K : List Pl} {f g : Pl → Value} (h : ∀ p ∈ K, f p = g p) : keep K f = keep K g := by
  unfold keep
  apply List.map_congr_left
  intro p hp
  rw [h p hp]
theorem keep_step {l : List (Nat → Int)} {K : List Pl} (h : KeysOk l K) (x : Nat → Int) : putP (keep K (totV l)) (keyL x) (totV (l ++ [x]) (keyL x)) = keep (if keyL x ∈ K then K else K ++ [keyL x]) (totV (l ++ [x])) := by
  rw [putP_keep h.nd]
  apply keep_congr
  intro p _
  by_cases e : p = keyL x
  · rw [if_pos e, e]
  · rw [if_neg e]
    unfold totV
    rw [onlyV_snoc, if_neg e]
theorem getT_tot {l : List (Nat → Int)} {K : List Pl} (h : KeysOk l K) (p : Pl) : ∃ a b c, getT (keep K (totV l)) p = .agg #[.int .i64 a, .int .i64 b, .int .i64 c, .int .i64 ((onlyV l p).length : Nat), .int .i64 (sumV (onlyV l p)).1, .int .i64 (sumV (onlyV l p)).2] := by
  rw [getT_keep]
  by_cases c : p ∈ K
  · rw [if_pos c]; exact ⟨_, _, _, rfl⟩
  · rw [if_neg c]
    have : onlyV l p = [] := by
      have := mt (h.mem p).2 c
      simpa using this
    rw [this]
    exact ⟨0, 0, 0, rfl⟩
end Go.Proofs.Ytdkdhhfejbecdaa
