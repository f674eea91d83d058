/- Graphs in plain words: a graph whose order takes all nodes is one in which no node is above itself. No program in sight. -/
import Derived.Test.YtddngibfhklnfaaGrP
namespace Go.Proofs.Ytddngibfhklnfaa
/-- Can a node be come to, up by From, in so many steps? -/
def aboveN (L : List Nd) (t : Int) : Nat → Int → Bool
  | 0, _ => false
  | s + 1, f => match findN L f with
    | none => false
    | some n => n.fr.any fun k => decide (k = t) || aboveN L t s k
def Edge (L : List Nd) (x y : Int) : Prop := ∃ n, findN L x = some n ∧ y ∈ n.fr
theorem aboveN_edge {L : List Nd} {t f : Int} (s : Nat) (h : Edge L f t) : aboveN L t (s + 1) f = true := by
  obtain ⟨n, hn, hf⟩ := h
  unfold aboveN
  rw [hn]
  simp only
  rw [List.any_eq_true]
  exact ⟨t, hf, by simp⟩
theorem aboveN_step {L : List Nd} {t f k : Int} {s : Nat} (h : Edge L f k) (ha : aboveN L t s k = true) : aboveN L t (s + 1) f = true := by
  obtain ⟨n, hn, hf⟩ := h
  unfold aboveN
  rw [hn]
  simp only
  rw [List.any_eq_true]
  exact ⟨k, hf, by simp [ha]⟩
theorem aboveN_cases {L : List Nd} {t f : Int} {s : Nat} (h : aboveN L t (s + 1) f = true) : ∃ k, Edge L f k ∧ (k = t ∨ aboveN L t s k = true) := by
  unfold aboveN at h
  cases hn : findN L f with
  | none => rw [hn] at h; cases h
  | some n =>
    rw [hn] at h
    obtain ⟨k, hk, hh⟩ := List.any_eq_true.1 h
    exact ⟨k, ⟨n, hn, hk⟩, by simpa using hh⟩
theorem aboveN_more {L : List Nd} {t : Int} : ∀ {s f : _}, aboveN L t s f = true → aboveN L t (s + 1) f = true
  | 0, _, h => by cases h
  | s + 1, f, h => by
    obtain ⟨k, he, hk⟩ := aboveN_cases h
    rcases hk with rfl | hk
    · exact aboveN_edge _ he
    · exact aboveN_step he (aboveN_more hk)
theorem aboveN_le {L : List Nd} {t f : Int} {s s' : Nat} (h : aboveN L t s f = true) (hs : s ≤ s') : aboveN L t s' f = true := by
  induction hs with
  | refl => exact h
  | step _ ih => exact aboveN_more ih
/-- A rank that rises from each From. -/
def Ranked (L : List Nd) : Prop := ∃ r : Int → Nat, ∀ n ∈ L, ∀ f ∈ n.fr, r f < r n.id
theorem ranked_above {L : List Nd} {r : Int → Nat} (hr : ∀ n ∈ L, ∀ f ∈ n.fr, r f < r n.id) {t : Int} : ∀ {s : Nat} {f : Int}, aboveN L t s f = true → r t < r f
  | 0, _, h => by cases h
  | s + 1, f, h => by
    obtain ⟨k, ⟨n, hn, hk⟩, hh⟩ := aboveN_cases h
    have h1 := hr n (findN_mem hn) k hk
    rw [findN_id hn] at h1
    rcases hh with rfl | hh
    · exact h1
    · exact Nat.lt_trans (ranked_above hr hh) h1
def posI : List Int → Int → Nat
  | [], _ => 0
  | y :: l, x => if y = x then 0 else posI l x + 1
theorem posI_get : ∀ {l : List Int} {x : Int}, x ∈ l → l[posI l x]? = some x
  | [], _, h => by cases h
  | y :: l, x, h => by
    unfold posI
    by_cases e : y = x
    · simp [e]
    · rw [if_neg e]
      rcases List.mem_cons.1 h with h | h
      · exact absurd h.symm e
      · simpa using posI_get h
theorem posI_le : ∀ {l : List Int} {x : Int} {j : Nat}, l[j]? = some x → posI l x ≤ j
  | [], _, _, h => by simp at h
  | y :: l, x, 0, h => by simp at h; simp [posI, h]
  | y :: l, x, j + 1, h => by
    unfold posI
    have := posI_le (l := l) (x := x) (j := j) (by simpa using h)
    split <;> omega
theorem posI_take {l : List Int} {x : Int} {i : Nat} (h : x ∈ l.take i) : posI l x < i := by
  obtain ⟨j, hj⟩ := List.getElem?_of_mem h
  rw [List.getElem?_take] at hj
  split at hj
  · exact Nat.lt_of_le_of_lt (posI_le hj) ‹_›
  · cases hj
theorem full_sub {a b : List Int} (ha : a.Nodup) (hs : ∀ x ∈ a, x ∈ b) (hl : b.length ≤ a.length) : ∀ x ∈ b, x ∈ a := by
  intro x hx
  refine Classical.byContradiction fun hn => ?_
  have := nodup_sub (a := x :: a) (b := b) (List.nodup_cons.2 ⟨hn, ha⟩) (fun y hy => by
    rcases List.mem_cons.1 hy with rfl | h
    · exact hx
    · exact hs y h)
  simp at this
  omega
theorem sortN_ord (L : List Nd) : OrdN L (sortN L) := by
  have h := sortF_ord (normL L) L.length
  exact ⟨h.nodup, fun i x hi => by obtain ⟨n, hn, r⟩ := h.each i x hi; exact ⟨n, normL_mem.1 hn, r⟩⟩
abbrev Complete (L : List Nd) : Prop := (sortN L).length = L.length
theorem complete_all {L : List Nd} (h : Complete L) {n : Nd} (hn : n ∈ L) : n.id ∈ sortN L :=
  full_sub (sortN_ord L).nodup (sortN_ord L).sub (by rw [h]; simp [idsN]) _ (List.mem_map.2 ⟨n, hn, rfl⟩)
theorem id_inj {L : List Nd} (hu : (idsN L).Nodup) {a b : Nd} (ha : a ∈ L) (hb : b ∈ L) (h : a.id = b.id) : a = b := by
  have h1 := findN_one hu ha
  have h2 := findN_one hu hb
  rw [h, h2] at h1
  injection h1 with h1
  exact h1.symm
theorem complete_rank {L : List Nd} (hu : (idsN L).Nodup) (h : Complete L) : ∀ n ∈ L, ∀ f ∈ n.fr, posI (sortN L) f < posI (sortN L) n.id := by
  intro n hn f hf
  obtain ⟨m, hm, e, hh⟩ := (sortN_ord L).each _ _ (posI_get (complete_all h hn))
  have := id_inj hu hm hn e
  subst this
  exact posI_take (hh f hf)
theorem complete_ranked {L : List Nd} (hu : (idsN L).Nodup) (h : Complete L) : Ranked L := ⟨_, complete_rank hu h⟩
theorem sortF_go (L : List Nd) : ∀ k, (sortF L k).length = k ∨ ∃ j, j < k ∧ (sortF L j).length = j ∧ L.find? (readyB (sortF L j)) = none
  | 0 => .inl rfl
  | k + 1 => by
    rcases sortF_go L k with h | ⟨j, hj, h⟩
    · cases hf : L.find? (readyB (sortF L k)) with
      | none => exact .inr ⟨k, by omega, h, hf⟩
      | some n => left; rw [sortF_some hf, List.length_append, h]; rfl
    · exact .inr ⟨j, by omega, h⟩
theorem chain_above {L : List Nd} {a : Nat → Int} (h : ∀ k, Edge L (a k) (a (k + 1))) : ∀ (d i s : Nat), d + 1 ≤ s → aboveN L (a (i + d + 1)) s (a i) = true
  | 0, i, s, hs => by
    obtain ⟨s, rfl⟩ : ∃ s', s = s' + 1 := ⟨s - 1, by omega⟩
    exact aboveN_edge _ (h i)
  | d + 1, i, s, hs => by
    obtain ⟨s, rfl⟩ : ∃ s', s = s' + 1 := ⟨s - 1, by omega⟩
    have := chain_above h d (i + 1) s (by omega)
    rw [show i + 1 + d + 1 = i + (d + 1) + 1 by omega] at this
    exact aboveN_step (h i) this
theorem two_alike {a : Nat → Int} {l : List Int} {m : Nat} (hl : l.length ≤ m) (ha : ∀ k, a k ∈ l) : ∃ i j, i < j ∧ j ≤ m ∧ a i = a j := by
  refine Classical.byContradiction fun hn => ?_
  have hnd : ((List.range (m + 1)).map a).Nodup := by
    rw [List.nodup_iff_pairwise_ne, List.pairwise_map]
    refine List.Pairwise.imp_of_mem ?_ List.pairwise_lt_range
    intro i j _ hj hij e
    exact hn ⟨i, j, hij, by have := List.mem_range.1 hj; omega, e⟩
  have := nodup_sub hnd (b := l) (by
    intro x hx
    obtain ⟨k, _, rfl⟩ := List.mem_map.1 hx
    exact ha k)
  simp at this
  omega
theorem froms_there {L : List Nd} {n : Nd} (h : nodeB L n = true) : ∀ f ∈ n.fr, ∃ m, findN L f = some m ∧ m.kind ≠ 2 := by
  intro f hf
  unfold nodeB at h
  simp only [Bool.and_eq_true, Bool.not_eq_true', List.any_eq_false] at h
  have h1 := h.2.2.2.2 f hf
  unfold aboveB at h1
  cases hm : findN L f with
  | none => rw [hm] at h1; simp at h1
  | some m => rw [hm] at h1; exact ⟨m, rfl, by simpa using h1⟩
theorem acyclic_complete {L : List Nd} (hl : L.length ≤ 8) (hn : ∀ n ∈ L, nodeB L n = true) (hu : (idsN L).Nodup) (hc : ∀ n ∈ L, aboveN L n.id 9 n.id = false) : Complete L := by
  refine Classical.byContradiction fun hnc => ?_
  rcases sortF_go (normL L) L.length with h | ⟨j, hj, hjl, hnone⟩
  · exact hnc h
  have hs : sortN L = sortF (normL L) j := by
    unfold sortN
    rw [← normL_len L]
    exact sortF_end (by rw [normL_len]; omega) hnone
  rw [← hs] at hnone
  let P : Int → Prop := fun x => x ∈ idsN L ∧ x ∉ sortN L
  have hstep : ∀ x, ∃ y, P x → P y ∧ Edge L x y := by
    intro x
    by_cases hp : P x
    · obtain ⟨n, hf⟩ := findN_ids.2 hp.1
      have hr := List.find?_eq_none.1 hnone n (normL_mem.2 (findN_mem hf))
      have hr2 : ¬ (∀ f ∈ n.fr, f ∈ sortN L) := fun h => hr (readyB_iff.2 ⟨by rw [findN_id hf]; exact hp.2, h⟩)
      obtain ⟨f, hff⟩ := Classical.not_forall.1 hr2
      obtain ⟨hfm, hfo⟩ := Classical.not_imp.1 hff
      obtain ⟨m, hm, _⟩ := froms_there (hn n (findN_mem hf)) f hfm
      exact ⟨f, fun _ => ⟨⟨findN_ids.1 ⟨m, hm⟩, hfo⟩, n, hf, hfm⟩⟩
    · exact ⟨x, fun h => absurd h hp⟩
  obtain ⟨g, hg⟩ := Classical.axiomOfChoice hstep
  have hx0 : ∃ x, P x := by
    refine Classical.byContradiction fun hno => ?_
    have := nodup_sub hu (b := sortN L) (fun x hx => Classical.byContradiction fun hx' => hno ⟨x, hx, hx'⟩)
    have h2 := (sortN_ord L).le
    simp [idsN] at this
    omega
  obtain ⟨x0, hx0⟩ := hx0
  let a : Nat → Int := fun k => Nat.rec x0 (fun _ y => g y) k
  have ha : ∀ k, P (a k) := by
    intro k
    induction k with
    | zero => exact hx0
    | succ k ih => exact (hg _ ih).1
  have he : ∀ k, Edge L (a k) (a (k + 1)) := fun k => (hg _ (ha k)).2
  obtain ⟨i, j', hij, hj8, haij⟩ := two_alike (m := 8) (l := idsN L) (by simpa [idsN] using hl) (fun k => (ha k).1)
  have := chain_above he (j' - i - 1) i 9 (by omega)
  rw [show i + (j' - i - 1) + 1 = j' by omega, ← haij] at this
  obtain ⟨n, hf⟩ := findN_ids.2 (ha i).1
  have h9 := hc n (findN_mem hf)
  rw [findN_id hf, this] at h9
  cases h9
/-- A right graph. -/
structure RightG (L : List Nd) : Prop where
  len : L.length ≤ 8
  each : ∀ n ∈ L, nodeB L n = true
  uni : (idsN L).Nodup
  zero : 0 ∈ idsN L
  rank : Ranked L
theorem RightG.complete {L : List Nd} (h : RightG L) : Complete L := by
  obtain ⟨r, hr⟩ := h.rank
  refine acyclic_complete h.len h.each h.uni fun n hn => ?_
  cases hb : aboveN L n.id 9 n.id with
  | false => rfl
  | true => have := ranked_above hr hb; omega
/-- The error's number. -/
def checkN (L : List Nd) : Int :=
  if 8 < L.length then 6 else if L.all (nodeB L) && (unlikeB (idsN L) && (hasI (idsN L) 0 && decide ((sortN L).length = L.length))) then 0 else 10
theorem checkN_zero {L : List Nd} : checkN L = 0 ↔ RightG L := by
  unfold checkN
  by_cases h8 : 8 < L.length
  · rw [if_pos h8]
    exact ⟨(fun h => by cases h), (fun h => by have := h.len; omega)⟩
  · rw [if_neg h8]
    constructor
    · intro h
      split at h
      · rename_i hh
        simp only [Bool.and_eq_true, List.all_eq_true, unlikeB, decide_eq_true_eq] at hh
        exact ⟨by omega, hh.1, hh.2.1, hasI_iff.1 hh.2.2.1, complete_ranked hh.2.1 hh.2.2.2⟩
      · cases h
    · intro h
      rw [if_pos]
      simp only [Bool.and_eq_true, List.all_eq_true, unlikeB, decide_eq_true_eq]
      exact ⟨h.each, h.uni, hasI_iff.2 h.zero, h.complete⟩
theorem checkN_long {L : List Nd} : checkN L = 6 ↔ 8 < L.length := by
  unfold checkN
  by_cases h8 : 8 < L.length
  · simp [h8]
  · rw [if_neg h8]
    split <;> simp [h8]
theorem checkN_three (L : List Nd) : checkN L = 0 ∨ checkN L = 6 ∨ checkN L = 10 := by
  unfold checkN
  split
  · exact .inr (.inl rfl)
  · split
    · exact .inl rfl
    · exact .inr (.inr rfl)
end Go.Proofs.Ytddngibfhklnfaa
