/- Plain law of SinkSince: what stands ahead of the first epoch, and the totals' sum. -/
import Derived.Test.YtdkdhhfejbecdaaWinP
namespace Go.Proofs.Ytdkdhhfejbecdaa
open Go.RowKit Go.Fb
/-- The entries of a book: each epoch above nothing and up to the last one, and one of them at the beginning if there is any. -/
structure EI (l : List (Nat → Int)) (E : List (Int × Nat)) (ep : Int) : Prop where
  keys : ∀ x ∈ E, 0 < x.1 ∧ x.1 ≤ ep ∧ x.2 ≤ l.length
  low : 0 ≤ ep
  first : l = [] ∨ ∃ x ∈ E, x.2 = 0
theorem EI.start : EI [] [] 0 := ⟨by simp, Int.le_refl _, .inl rfl⟩
theorem EI.step {l m : List (Nat → Int)} {E : List (Int × Nat)} {ep e : Int} (h : EI l E ep) (he : ep < e) : EI (l ++ m) (E ++ [(e, l.length)]) e := by
  have h0 := h.low
  refine ⟨fun x hx => ?_, by omega, .inr ?_⟩
  · rw [List.length_append]
    rcases List.mem_append.1 hx with hx | hx
    · have := h.keys x hx; omega
    · rw [List.mem_singleton.1 hx]; exact ⟨by show 0 < e; omega, Int.le_refl _, by show l.length ≤ _; omega⟩
  · rcases h.first with rfl | ⟨x, hx, h0⟩
    · exact ⟨(e, 0), by simp, rfl⟩
    · exact ⟨x, by simp [hx], h0⟩
theorem EI.zero {l : List (Nat → Int)} {E : List (Int × Nat)} {ep : Int} {f : Nat} (h : EI l E ep) (hf : FromOk E 0 l.length f) : f = 0 := by
  rcases h.first with rfl | ⟨x, hx, h0⟩
  · have := hf.1; simpa using this
  · have := hf.2.1 x hx (h.keys x hx).1; omega
theorem EI.last {l : List (Nat → Int)} {E : List (Int × Nat)} {ep : Int} {f : Nat} (h : EI l E ep) (hf : FromOk E ep l.length f) : f = l.length := by
  rcases hf.2.2 with e | ⟨x, hx, h1, _⟩
  · exact e
  · have := (h.keys x hx).2.1; omega
/-- How many lines the totals of some keys have together. -/
def manyK (l : List (Nat → Int)) (K : List Pl) : Int := (K.map fun p => ((onlyV l p).length : Int)).sum
theorem manyK_cons (l : List (Nat → Int)) (p : Pl) (K : List Pl) : manyK l (p :: K) = ((onlyV l p).length : Int) + manyK l K := by simp [manyK]
theorem onlyV_cons (x : Nat → Int) (l : List (Nat → Int)) (p : Pl) : ((onlyV (x :: l) p).length : Int) = (if keyL x = p then 1 else 0) + ((onlyV l p).length : Int) := by
  unfold onlyV
  rw [List.filter_cons]
  by_cases c : keyL x = p
  · rw [if_pos (by simpa using c), if_pos c]; simp; omega
  · rw [if_neg (by simpa using c), if_neg c]; simp
theorem manyK_nil (K : List Pl) : manyK [] K = 0 := by
  induction K with
  | nil => rfl
  | cons p K ih => rw [manyK_cons, ih]; rfl
theorem manyK_no {x : Nat → Int} {l : List (Nat → Int)} : ∀ {K : List Pl}, keyL x ∉ K → manyK (x :: l) K = manyK l K
  | [], _ => rfl
  | p :: K, h => by
    simp only [List.mem_cons, not_or] at h
    rw [manyK_cons, manyK_cons, manyK_no h.2, onlyV_cons, if_neg h.1]; omega
theorem manyK_yes {x : Nat → Int} {l : List (Nat → Int)} : ∀ {K : List Pl}, K.Nodup → keyL x ∈ K → manyK (x :: l) K = 1 + manyK l K
  | [], _, h => by cases h
  | p :: K, hn, h => by
    obtain ⟨h1, h2⟩ := List.nodup_cons.1 hn
    rw [manyK_cons, manyK_cons, onlyV_cons]
    by_cases c : keyL x = p
    · rw [if_pos c, manyK_no (by rw [c]; exact h1)]; omega
    · rw [if_neg c, manyK_yes h2 ((List.mem_cons.1 h).resolve_left c)]; omega
theorem manyK_all (K : List Pl) (hn : K.Nodup) : ∀ l : List (Nat → Int), (∀ x ∈ l, keyL x ∈ K) → manyK l K = (l.length : Int)
  | [], _ => manyK_nil K
  | x :: l, h => by
    rw [manyK_yes hn (h x (by simp)), manyK_all K hn l (fun y hy => h y (by simp [hy]))]; simp; omega
theorem key_in {l : List (Nat → Int)} {K : List Pl} (h : KeysOk l K) : ∀ x ∈ l, keyL x ∈ K := fun x hx => (h.mem _).2 (by
  unfold onlyV
  rw [ne_eq, List.map_eq_nil_iff, List.filter_eq_nil_iff]
  exact fun hc => hc x hx (by simp))
/-- The sum of the fourth numbers of totals. -/
def many4 (L : List (Nat → Int)) : Int := (L.map fun x => x 3).sum
theorem many4_app (a b : List (Nat → Int)) : many4 (a ++ b) = many4 a + many4 b := by simp [many4]
theorem perm_sum {a b : List Int} (h : a.Perm b) : a.sum = b.sum := by
  induction h with
  | nil => rfl
  | cons x _ ih => simp [ih]
  | swap x y l => simp; omega
  | trans _ _ h1 h2 => exact h1.trans h2
theorem many4_all {l : List (Nat → Int)} {K : List Pl} {L : List (Nat → Int)} (h : KeysOk l K) (hp : L.Perm (K.map (totF l))) : many4 L = (l.length : Int) := by
  rw [← manyK_all K h.nd l (key_in h)]
  unfold many4 manyK
  rw [perm_sum (hp.map (fun x : Nat → Int => x 3)), List.map_map]
  rfl
theorem many4_take {L : List (Nat → Int)} {i : Nat} {x : Nat → Int} (h : L[i]? = some x) : many4 (L.take (i + 1)) = many4 (L.take i) + x 3 := by
  unfold many4
  rw [List.take_add_one, h]
  simp
/-- A total is that of its key, and that is not none. -/
theorem tot_of {l : List (Nat → Int)} {K : List Pl} {L : List (Nat → Int)} (h : KeysOk l K) (hp : L.Perm (K.map (totF l))) {x : Nat → Int} (hx : x ∈ L) : x 3 = ((onlyV l (x 0, x 1, x 2)).length : Int) ∧ x 3 ≠ 0 := by
  obtain ⟨p, hpK, rfl⟩ := List.mem_map.1 (hp.mem_iff.1 hx)
  have h1 := (h.mem p).1 hpK
  obtain ⟨a, b, c⟩ := p
  have h2 : (onlyV l (a, b, c)).length ≠ 0 := fun e => h1 (List.eq_nil_of_length_eq_zero e)
  simp only [totF]
  simp
  exact h1
theorem many4_le {l : List (Nat → Int)} {K : List Pl} {L : List (Nat → Int)} (h : KeysOk l K) (hp : L.Perm (K.map (totF l))) (i : Nat) : 0 ≤ many4 (L.take i) ∧ many4 (L.take i) ≤ (l.length : Int) := by
  have pos : ∀ M : List (Nat → Int), (∀ x ∈ M, x ∈ L) → 0 ≤ many4 M := by
    intro M
    induction M with
    | nil => intro _; exact Int.le_refl _
    | cons x M ih =>
      intro hM
      have h1 := (tot_of h hp (hM x (by simp))).1
      have h2 := ih (fun y hy => hM y (by simp [hy]))
      have : many4 (x :: M) = x 3 + many4 M := by simp [many4]
      omega
  have e : many4 (L.take i) + many4 (L.drop i) = many4 L := by rw [← many4_app, List.take_append_drop]
  have h1 := pos (L.take i) (fun x hx => List.mem_of_mem_take hx)
  have h2 := pos (L.drop i) (fun x hx => List.mem_of_mem_drop hx)
  rw [many4_all h hp] at e
  omega
end Go.Proofs.Ytdkdhhfejbecdaa
