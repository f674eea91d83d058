/- Graphs in plain words: the document's check says what the program's says. No program in sight. -/
import Derived.Test.YtddngibfhklnfaaRfC
import Derived.Test.YtddngibfhklnfaaGrR
namespace Go.Proofs.Ytddngibfhklnfaa
/-- May a node stand at its place, by the document? -/
structure RGood (L : List Nd) (i : Nat) (x : Nd) : Prop where
  id0 : 0 ≤ x.id
  id7 : x.id ≤ 7
  at_ : ixN L x.id = (i : Int)
  k0 : 0 ≤ x.kind
  k2 : x.kind ≤ 2
  p1 : 1 ≤ x.par
  p3 : x.par ≤ 3
  f3 : x.fr.length ≤ 3
  src : x.id = 0 ↔ x.kind = 0
  rt : inTo x.par x.rt 8 = true
  f0 : x.kind = 0 → x.fr.length = 0
  f1 : x.kind = 1 → x.fr.length = 1
  f2 : x.kind = 2 → x.fr.length ≠ 0
  s1 : x.kind = 1 → (chkL x.pg).isSome = true
  s2 : x.kind ≠ 1 → x.pg.length = 0
  fr : ∀ (j : Nat) (f : Int), x.fr[j]? = some f → (∃ m, findN L f = some m ∧ m.kind ≠ 2) ∧ f ∉ x.fr.take j
def srcN (L : List Nd) : Nat := (L.filter fun x => decide (x.kind = 0)).length
theorem srcN_snoc (L : List Nd) (x : Nd) : srcN (L ++ [x]) = srcN L + (if x.kind = 0 then 1 else 0) := by
  unfold srcN
  rw [List.filter_append, List.length_append]
  by_cases h : x.kind = 0 <;> simp [h]
theorem srcN_le (L : List Nd) : srcN L ≤ L.length := List.length_filter_le _ _
theorem id_at {L : List Nd} (hu : (idsN L).Nodup) {i j : Nat} {x y : Nd} (hi : L[i]? = some x) (hj : L[j]? = some y) (h : x.id = y.id) : i = j := by
  have hlt := (List.getElem?_eq_some_iff.1 hi).1
  refine (List.getElem?_inj (l := idsN L) (by simpa [idsN] using hlt) hu).1 ?_
  simp [idsN, hi, hj, h]
theorem ixN_uni {L : List Nd} (hu : (idsN L).Nodup) {i : Nat} {x : Nd} (hx : L[i]? = some x) : ixN L x.id = (i : Int) := by
  have h1 := findN_one hu (List.mem_of_getElem? hx)
  rcases ixN_cases L x.id with ⟨_, h⟩ | ⟨k, y, h2, h3, h4⟩
  · rw [h] at h1; cases h1
  · rw [h1] at h4
    injection h4 with h4
    subst h4
    rw [h2, id_at hu h3 hx rfl]
theorem nodup_take {l : List Int} : l.Nodup ↔ ∀ (j : Nat) (f : Int), l[j]? = some f → f ∉ l.take j := by
  constructor
  · intro h j f hf hm
    obtain ⟨i, hi⟩ := List.getElem?_of_mem hm
    rw [List.getElem?_take] at hi
    split at hi
    · have hjl := (List.getElem?_eq_some_iff.1 hf).1
      have := (List.getElem?_inj (i := i) (j := j) (by omega) h).1 (by rw [hi, hf])
      omega
    · cases hi
  · intro h
    rw [List.nodup_iff_pairwise_ne, List.pairwise_iff_getElem]
    intro i j hi hj hij e
    refine h j l[j] (List.getElem?_eq_getElem hj) ?_
    rw [← e]
    refine List.mem_of_getElem? (i := i) ?_
    rw [List.getElem?_take, if_pos hij, List.getElem?_eq_getElem hi]
theorem right_good {L : List Nd} (h : RightG L) {i : Nat} {x : Nd} (hx : L[i]? = some x) : RGood L i x := by
  obtain ⟨a1, a2, a3, a4, a5⟩ := nodeB_iff.1 (h.each x (List.mem_of_getElem? hx))
  have hz := kindB_zero a3
  unfold right8 at a4
  simp only [Bool.and_eq_true, decide_eq_true_eq] at a4
  unfold kindB at a3
  have hfr : ∀ (j : Nat) (f : Int), x.fr[j]? = some f → ∃ m, findN L f = some m ∧ m.kind ≠ 2 := fun j f hf => a5 f (List.mem_of_getElem? hf)
  by_cases c0 : x.kind = 0
  · rw [if_pos c0] at a3
    simp only [Bool.and_eq_true, decide_eq_true_eq] at a3
    exact ⟨a1, by omega, ixN_uni h.uni hx, by omega, by omega, a4.1.1, a4.1.2, by omega, hz, a4.2, fun _ => a3.2.1, (fun h => by omega), (fun h => by omega), (fun h => by omega), fun _ => a3.2.2, fun j f hf => by
      have := (List.getElem?_eq_some_iff.1 hf).1
      omega⟩
  rw [if_neg c0] at a3
  by_cases c1 : x.kind = 1
  · rw [if_pos c1] at a3
    simp only [Bool.and_eq_true, decide_eq_true_eq] at a3
    exact ⟨a1, by omega, ixN_uni h.uni hx, by omega, by omega, a4.1.1, a4.1.2, by omega, hz, a4.2, (fun h => by omega), fun _ => a3.2.1, (fun h => by omega), fun _ => a3.2.2, (fun h => by omega), fun j f hf => ⟨hfr j f hf, by
      have := (List.getElem?_eq_some_iff.1 hf).1
      obtain rfl : j = 0 := by omega
      simp⟩⟩
  rw [if_neg c1] at a3
  by_cases c2 : x.kind = 2
  · rw [if_pos c2] at a3
    simp only [Bool.and_eq_true, decide_eq_true_eq, unlikeB] at a3
    exact ⟨a1, by omega, ixN_uni h.uni hx, by omega, by omega, a4.1.1, a4.1.2, by omega, hz, a4.2, (fun h => by omega), (fun h => by omega), (fun _ => by omega), (fun h => by omega), fun _ => a3.2.2.2.2, fun j f hf => ⟨hfr j f hf, nodup_take.1 a3.2.2.2.1 j f hf⟩⟩
  · rw [if_neg c2] at a3
    cases a3
theorem one_filt {L : List Nd} (hu : (idsN L).Nodup) {n : Nd} (hn : n ∈ L) : filtN n.id L = [n] := by
  induction L with
  | nil => cases hn
  | cons y L ih =>
    have hu' := List.nodup_cons.1 hu
    rw [filtN_head]
    rcases List.mem_cons.1 hn with h | h
    · subst h
      rw [if_pos rfl]
      congr 1
      unfold filtN
      rw [List.filter_eq_nil_iff]
      intro z hz e
      simp at e
      exact hu'.1 (List.mem_map.2 ⟨z, hz, e⟩)
    · have hne : y.id ≠ n.id := fun e => hu'.1 (List.mem_map.2 ⟨n, h, e.symm⟩)
      rw [if_neg hne]
      exact ih hu'.2 h
theorem right_src {L : List Nd} (h : RightG L) : srcN L = 1 := by
  obtain ⟨z, hz, e⟩ := List.mem_map.1 h.zero
  have h1 := one_filt h.uni hz
  have h2 : L.filter (fun x => decide (x.kind = 0)) = filtN z.id L := by
    unfold filtN
    refine List.filter_congr fun y hy => ?_
    have := kindB_zero (nodeB_iff.1 (h.each y hy)).2.2.1
    rw [e]
    exact decide_eq_decide.2 this.symm
  unfold srcN
  rw [h2, h1]
  rfl
theorem right_above {L : List Nd} (h : RightG L) {x : Nd} : aboveN L x.id 9 x.id = false := by
  obtain ⟨r, hr⟩ := h.rank
  cases hb : aboveN L x.id 9 x.id with
  | false => rfl
  | true => have := ranked_above hr hb; omega
theorem good_right {L : List Nd} (hl : L.length ≤ 8) (hg : ∀ (i : Nat) (x : Nd), L[i]? = some x → RGood L i x) (hs : srcN L = 1) (ha : ∀ x ∈ L, aboveN L x.id 9 x.id = false) : RightG L := by
  have hu : (idsN L).Nodup := by
    rw [List.nodup_iff_pairwise_ne, List.pairwise_iff_getElem]
    intro i j hi hj hij e
    simp [idsN] at hi hj e
    have h1 := (hg i _ (List.getElem?_eq_getElem hi)).at_
    have h2 := (hg j _ (List.getElem?_eq_getElem hj)).at_
    rw [e, h2] at h1
    omega
  have hn : ∀ n ∈ L, nodeB L n = true := by
    intro n hn
    obtain ⟨i, hi⟩ := List.getElem?_of_mem hn
    have g := hg i n hi
    have g1 := g.id0
    have g2 := g.id7
    have g3 := g.k0
    have g4 := g.k2
    have g5 := g.src
    have g6 := g.f3
    refine nodeB_iff.2 ⟨g1, by omega, ?_, ?_, fun f hf => ?_⟩
    · unfold kindB
      by_cases c0 : n.kind = 0
      · rw [if_pos c0]
        simp [g5.2 c0, List.eq_nil_of_length_eq_zero (g.f0 c0), List.eq_nil_of_length_eq_zero (g.s2 (by omega))]
      rw [if_neg c0]
      have hid : ¬ n.id = 0 := fun e => c0 (g5.1 e)
      by_cases c1 : n.kind = 1
      · rw [if_pos c1]
        have := g.s1 c1
        simp [hid, g.f1 c1, this]
      rw [if_neg c1]
      have c2 : n.kind = 2 := by omega
      rw [if_pos c2]
      have hnd := nodup_take.2 fun j f hf => (g.fr j f hf).2
      have := g.f2 c2
      simp only [Bool.and_eq_true, decide_eq_true_eq, unlikeB, Bool.not_eq_true', decide_eq_false_iff_not]
      exact ⟨hid, by omega, g6, hnd, g.s2 (by omega)⟩
    · unfold right8
      rw [g.rt, decide_eq_true ⟨g.p1, g.p3⟩]; rfl
    · obtain ⟨j, hj⟩ := List.getElem?_of_mem hf
      exact (g.fr j f hj).1
  refine ⟨hl, hn, hu, ?_, complete_ranked hu (acyclic_complete hl hn hu ha)⟩
  unfold srcN at hs
  cases hc : L.filter (fun x => decide (x.kind = 0)) with
  | nil => rw [hc] at hs; simp at hs
  | cons z t =>
    have hz : z ∈ L.filter (fun x => decide (x.kind = 0)) := by rw [hc]; simp
    obtain ⟨h1, h2⟩ := List.mem_filter.1 hz
    obtain ⟨i, hi⟩ := List.getElem?_of_mem h1
    exact List.mem_map.2 ⟨z, h1, (hg i z hi).src.2 (by simpa using h2)⟩
theorem checkN_ten {L : List Nd} (hl : L.length ≤ 8) (h : ¬ RightG L) : checkN L = 10 := by
  rcases checkN_three L with h1 | h1 | h1
  · exact absurd (checkN_zero.1 h1) h
  · have := checkN_long.1 h1; omega
  · exact h1
end Go.Proofs.Ytddngibfhklnfaa
