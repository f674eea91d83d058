/- A store into an owned row of one-cell elements. No program in sight. -/
import Derived.Test.YtkgllkoooohikaaW
namespace Go.Fb
open Go.RowKit
theorem ownsRow_set {w : World} {base e n g c : Nat} {xs : List Value} (h : w.ownsRow base e 1 (.slice (some ⟨g, 0, none⟩) n c) n xs) (k : Nat) (u : Value) :
    (w.setCell ⟨g, k, none⟩ u).ownsRow base e 1 (.slice (some ⟨g, 0, none⟩) n c) n (xs.set k u) := by
  obtain ⟨hl, hc⟩ := h
  refine ⟨by rw [List.length_set]; exact hl, .inr ?_⟩
  rcases hc with ⟨hn, _⟩ | ⟨g', cap, cur, hv, hb, hg, h1, h2, h3, h4⟩
  · cases hn
  · have hv' := hv
    injection hv with hv1 hv2 hv3
    injection hv1 with hv1
    injection hv1 with hv1
    subst hv1
    refine ⟨g, cap, cur.setIfInBounds k u, hv', hb, ?_, h1, h2, by rw [Array.size_setIfInBounds]; exact h3, ?_⟩
    · simp [World.setCell, Array.getElem?_modify, hg]
    · rw [Array.toList_setIfInBounds, List.take_set, h4]
/-- The cells of an owned row of one-cell elements, and that none is frozen. -/
theorem ownsRow_cell {w : World} {base e n g c : Nat} {xs : List Value} (h : w.ownsRow base e 1 (.slice (some ⟨g, 0, none⟩) n c) n xs) {k : Nat} {u : Value} (hk : xs[k]? = some u) : w.cell? ⟨g, k, none⟩ = some u ∧ w.frozen? ⟨g, k, none⟩ = false := by
  obtain ⟨b, off, e1, _, hc⟩ := (Reads.of_own h).2 (by
    have := h.1
    rcases Nat.eq_zero_or_pos n with h0 | h0
    · have : xs = [] := List.eq_nil_of_length_eq_zero (by omega)
      rw [this] at hk; cases hk
    · exact h0)
  injection e1 with e1
  injection e1 with e1 e2
  subst e1 e2
  refine ⟨by simpa using hc k u hk, ?_⟩
  rcases h.2 with ⟨hn, _⟩ | ⟨g', cap, cur, hv, hb, hg, _⟩
  · cases hn
  · injection hv with hv
    injection hv with hv
    injection hv with hv
    subst hv
    simp [World.frozen?, hg]
end Go.Fb
