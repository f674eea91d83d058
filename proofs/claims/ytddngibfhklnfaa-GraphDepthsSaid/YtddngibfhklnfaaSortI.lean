/- slices.Sort and slices.Compact on an owned row of ints: what they leave, as lists. -/
import Derived.Test.YtddngibfhklnfaaLaySortI
import Derived.Test.YtddngibfhklnfaaW
import Derived.Sort.OwnSortedInts
namespace Go.Proofs.Ytddngibfhklnfaa
open Go.RowKit Go.Fb
def srt (zs : List Int) : List Int := zs.mergeSort fun x y => decide (x ≤ y)
theorem srt_perm (zs : List Int) : (srt zs).Perm zs := List.mergeSort_perm _ _
theorem srt_len (zs : List Int) : (srt zs).length = zs.length := (srt_perm zs).length_eq
theorem srt_sorted (zs : List Int) : (srt zs).Pairwise (· ≤ ·) := by
  have := List.pairwise_mergeSort (le := fun x y : Int => decide (x ≤ y)) (fun a b c h1 h2 => by simp at *; omega) (fun a b => by simp; omega) zs
  exact this.imp (fun h => by simpa using h)
theorem holds_own {w : World} {base g c n : Nat} {e : TypeId} {zs : List Int} (hn : n = zs.length) (hown : w.ownsRow base e 1 (.slice (some ⟨g, 0, none⟩) n c) n (zs.map (Value.int .i64))) :
    ∃ cur, w.heap[g]? = some (.cells cur e (0, 0)) ∧ cur.toList.take zs.length = zs.map (Value.int .i64) ∧ base ≤ g ∧ zs.length ≤ c ∧ c ≤ maxLen ∧ cur.size = c * 1 := by
  rcases hown.2 with ⟨h0, _⟩ | ⟨g', cap, cur, hv, hb, hg, h1, h2, h3, h4⟩
  · cases h0
  · injection hv with e1 e2 e3
    injection e1 with e1
    injection e1 with e1
    subst e1
    subst e3
    refine ⟨cur, hg, ?_, hb, by omega, h2, h3⟩
    rw [← hn]
    simpa using h4
theorem sorti_any (w : World) (base g c n : Nat) (zs : List Int) (hn : n = zs.length) (hown : w.ownsRow base 3 1 (.slice (some ⟨g, 0, none⟩) n c) n (zs.map (Value.int .i64))) (hm : n ≤ 1000000) :
    Calls Try.prog 53 #[.slice (some ⟨g, 0, none⟩) n c] w fun e w' => e = .returned (.tuple #[]) ∧ w'.ownsRow base 3 1 (.slice (some ⟨g, 0, none⟩) n c) n ((srt zs).map (Value.int .i64)) ∧ Fr w.heap.size [g] w w' := by
  obtain ⟨cur, hg, ht, hb, h1, h2, h3⟩ := holds_own hn hown
  have hlt : g < w.heap.size := (Array.getElem?_eq_some_iff.1 hg).1
  rw [hn]
  refine (Any.slices_Sort_int Try.sortI g 0 c zs w (holds_of_blockI hg ht) hlt (by omega)).mono ?_
  rintro e w' ⟨rfl, k, os, rfl⟩
  refine ⟨rfl, ownsRow_sortedI (srt_len zs) hb hg h1 h2 h3, ?_⟩
  have hgr := grownBy_sortedI (w := w) (g := g) (n := k) (os := os) (srt zs).toArray
  exact (Fr.refl w.heap.size [g] w).grown hgr (Nat.le_refl _) (fun q hq => .inr (by simp at hq; simp [hq]))
theorem compacti_any (w : World) (base g c n : Nat) (zs : List Int) (hn : n = zs.length) (hown : w.ownsRow base 3 1 (.slice (some ⟨g, 0, none⟩) n c) n (zs.map (Value.int .i64))) (hm : n ≤ 1000000) :
    Calls Try.prog 81 #[.slice (some ⟨g, 0, none⟩) n c] w fun e w' => e = .returned (.slice (some ⟨g, 0, none⟩) (Lib.compact zs).length c) ∧ Reads w' w'.heap.size 1 (some ⟨g, 0, none⟩) (Lib.compact zs).length ((Lib.compact zs).map (Value.int .i64)) ∧ Fr w.heap.size [g] w w' := by
  obtain ⟨cur, hg, ht, hb, h1, h2, h3⟩ := holds_own hn hown
  have hlt : g < w.heap.size := (Array.getElem?_eq_some_iff.1 hg).1
  rw [hn]
  have hcl : (Lib.compact zs).length ≤ zs.length := by unfold Lib.compact Lib.compactUpTo; rw [List.length_map]; exact Nat.le_trans (List.length_filter_le _ _) (by simp)
  refine (Any.slices_Compact_int Try.compactI g 0 c zs w (holds_of_blockI hg ht) (by omega) h1).mono ?_
  rintro e w' ⟨rfl, k, rfl⟩
  have hown2 := ownsRow_sortedI (n := k) (os := #[]) (ss := zs) (ts := Lib.compact zs ++ List.replicate (zs.length - (Lib.compact zs).length) 0) (by simp; omega) hb hg h1 h2 h3
  rw [Sort.grow_empty] at hown2
  refine ⟨rfl, ?_, ?_⟩
  · have hr := Reads.of_own hown2
    refine ⟨by simp, fun h0 => ?_⟩
    obtain ⟨b, off, e, hbb, hc⟩ := hr.2 (by omega)
    refine ⟨b, off, e, hbb, fun j u hu => hc j u ?_⟩
    rw [List.map_append, List.getElem?_append_left (by
      rcases Nat.lt_or_ge j ((Lib.compact zs).map (Value.int .i64)).length with h | h
      · exact h
      · rw [List.getElem?_eq_none h] at hu; cases hu)]
    exact hu
  · have hgr := grownBy_sortedI (w := w) (g := g) (n := k) (os := #[]) (Lib.compact zs ++ List.replicate (zs.length - (Lib.compact zs).length) 0).toArray
    rw [Sort.grow_empty] at hgr
    exact (Fr.refl w.heap.size [g] w).grown hgr (Nat.le_refl _) (fun q hq => .inr (by simp at hq; simp [hq]))
/-- What is left of a sorted list: each of its elements once, rising. -/
theorem compact_mem {zs : List Int} : ∀ x, x ∈ Lib.compact zs ↔ x ∈ zs := by
  intro x
  unfold Lib.compact Lib.compactUpTo
  simp only [List.mem_map, List.mem_filter, List.mem_range]
  constructor
  · rintro ⟨j, ⟨hj, _⟩, rfl⟩
    rw [getElem!_pos _ j (by simpa using hj)]
    simp
  · intro hx
    obtain ⟨j, hj, rfl⟩ := List.mem_iff_getElem.1 hx
    -- the first place that holds it
    have : ∀ j, (hj : j < zs.length) → ∃ k, (k < zs.length ∧ Lib.keeps zs.toArray k = true) ∧ zs.toArray[k]! = zs[j] := by
      intro j
      induction j with
      | zero => exact fun hj => ⟨0, ⟨hj, by simp [Lib.keeps]⟩, by rw [getElem!_pos _ 0 (by simpa using hj)]; simp⟩
      | succ j ih =>
        intro hj
        by_cases c : zs.toArray[j + 1]! = zs.toArray[j]!
        · obtain ⟨k, h1, h2⟩ := ih (by omega)
          refine ⟨k, h1, h2.trans ?_⟩
          rw [getElem!_pos _ (j + 1) (by simpa using hj), getElem!_pos _ j (by simp; omega)] at c
          simpa using c.symm
        · exact ⟨j + 1, ⟨hj, Lib.keeps_pos (by simpa using c)⟩, by rw [getElem!_pos _ (j + 1) (by simpa using hj)]; simp⟩
    exact this j hj
theorem compact_rises {zs : List Int} (h : zs.Pairwise (· ≤ ·)) : (Lib.compact zs).Pairwise (· < ·) := by
  unfold Lib.compact Lib.compactUpTo
  rw [List.pairwise_map]
  have hr : ((List.range zs.length).filter (Lib.keeps zs.toArray)).Pairwise (· < ·) := List.Pairwise.filter _ List.pairwise_lt_range
  have hmem : ∀ k ∈ (List.range zs.length).filter (Lib.keeps zs.toArray), k < zs.length ∧ Lib.keeps zs.toArray k = true := fun k hk => by simpa using hk
  refine (hr.imp_of_mem fun {a b} ha hb hab => ?_)
  obtain ⟨hal, _⟩ := hmem a ha
  obtain ⟨hbl, hkb⟩ := hmem b hb
  have hle : ∀ i j, (hij : i ≤ j) → (hj : j < zs.length) → zs[i]'(by omega) ≤ zs[j] := fun i j hij hj => by
    rcases Nat.lt_or_ge i j with h1 | h1
    · exact List.pairwise_iff_getElem.1 h i j (by omega) hj h1
    · have : i = j := by omega
      subst this
      exact Int.le_refl _
  have hne : zs.toArray[b]! ≠ zs.toArray[b - 1]! := by
    simp [Lib.keeps] at hkb
    rcases hkb with h0 | h0
    · omega
    · simpa using h0
  rw [getElem!_pos _ b (by simpa using hbl), getElem!_pos _ (b - 1) (by simp; omega)] at hne
  rw [getElem!_pos _ a (by simpa using hal), getElem!_pos _ b (by simpa using hbl)]
  simp only [List.getElem_toArray] at hne ⊢
  have h1 := hle a (b - 1) (by omega) (by omega)
  have h2 := hle (b - 1) b (by omega) hbl
  omega
/-- Two rising lists of the same elements are one. -/
theorem rises_eq : ∀ {a b : List Int}, a.Pairwise (· < ·) → b.Pairwise (· < ·) → (∀ x, x ∈ a ↔ x ∈ b) → a = b
  | [], [], _, _, _ => rfl
  | [], y :: b, _, _, h => absurd ((h y).2 (by simp)) (by simp)
  | x :: a, [], _, _, h => absurd ((h x).1 (by simp)) (by simp)
  | x :: a, y :: b, ha, hb, h => by
    rw [List.pairwise_cons] at ha hb
    have hxy : x = y := by
      rcases List.mem_cons.1 ((h x).1 (by simp)) with e | e
      · exact e
      · rcases List.mem_cons.1 ((h y).2 (by simp)) with e2 | e2
        · exact e2.symm
        · have := hb.1 x e; have := ha.1 y e2; omega
    subst hxy
    congr 1
    refine rises_eq ha.2 hb.2 fun z => ⟨fun hz => ?_, fun hz => ?_⟩
    · rcases List.mem_cons.1 ((h z).1 (by simp [hz])) with e | e
      · subst e; have := ha.1 z hz; omega
      · exact e
    · rcases List.mem_cons.1 ((h z).2 (by simp [hz])) with e | e
      · subst e; have := hb.1 z hz; omega
      · exact e
end Go.Proofs.Ytddngibfhklnfaa
