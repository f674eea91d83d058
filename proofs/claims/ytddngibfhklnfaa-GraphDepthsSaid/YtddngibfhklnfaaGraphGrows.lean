/- The walk of GraphGrows. -/
import Derived.Test.YtddngibfhklnfaaGAwake
import Derived.Test.YtddngibfhklnfaaGrR
import Derived.Test.YtddngibfhklnfaaStepApp
import Derived.Deep.RegionHeld3
import Derived.Deep.DeepCutAuto
import Derived.BigRegion
namespace Go.Proofs.Ytddngibfhklnfaa
open Go.RowKit Go.Fb
theorem small_great {M : List Ndm} (h : greatN (fstN M) = false) : M.length ≤ 20 ∧ Small M ∧ ∀ m ∈ M, m.1.fr.length ≤ 20 ∧ m.1.pg.length ≤ 60 := by
  unfold greatN at h
  simp only [Bool.or_eq_false_iff, decide_eq_false_iff_not, List.any_eq_false, Bool.or_eq_true, decide_eq_true_eq, not_or] at h
  have hl : M.length ≤ 20 := by have := h.1; simp [fstN] at this; omega
  have hm : ∀ m ∈ M, m.1.fr.length ≤ 20 ∧ m.1.pg.length ≤ 60 := fun m hm => by
    have := h.2 m.1 (List.mem_map.2 ⟨m, hm, rfl⟩)
    omega
  exact ⟨hl, ⟨by omega, fun m hm2 => by have := hm m hm2; omega⟩, hm⟩
/-- A row of nodes with one more. -/
theorem nds_app {w : World} {base B n c : Nat} {A : Option Addr} {M : List Ndm} (ho : w.ownsRow base 38 13 (.slice A n c) n (cellsN M)) (hi : ∀ m ∈ M, NdIn w B m) (hB : w.heap.size ≤ B) (hn : n = M.length) : Nds w B A n M :=
  ⟨hn, (Reads.of_own ho).more hB, hi⟩
theorem nowns_empty (w : World) : (w.alloc (.cells #[] 38)).ownsRow w.heap.size 38 13 (.slice (some ⟨w.heap.size, 0, none⟩) 0 0) 0 [] := by
  refine ⟨rfl, .inr ⟨w.heap.size, 0, #[], rfl, Nat.le_refl _, Blk.new _ _ _, ?_⟩⟩
  simp
theorem cellsN_one {M : List Ndm} (h : ∀ m ∈ M, SlN m) : ∀ u ∈ cellsN M, u.oneCell' = true := by
  intro u hu
  obtain ⟨m, hm, hu⟩ := List.mem_flatMap.1 hu
  obtain ⟨A, n, c, P, q, d, e1, e2⟩ := h m hm
  obtain ⟨x, sf, sp⟩ := m
  simp only at e1 e2
  subst e1
  subst e2
  exact ndOne u hu
theorem NdIn.sl {w : World} {B : Nat} {m : Ndm} (h : NdIn w B m) : SlN m := by
  obtain ⟨⟨A, c, h1, _⟩, ⟨A', c', h3, _⟩⟩ := h
  exact ⟨A, _, c, A', _, c', h1, h3⟩
theorem cellsN_take {M : List Ndm} {k : Nat} {u : Value} (h : u ∈ cellsN (M.take k)) : u ∈ cellsN M := by
  obtain ⟨m, hm, hu⟩ := List.mem_flatMap.1 h
  exact List.mem_flatMap.2 ⟨m, List.mem_of_mem_take hm, hu⟩
theorem cellsN_drop {M : List Ndm} {k : Nat} {u : Value} (h : u ∈ cellsN (M.drop k)) : u ∈ cellsN M := by
  obtain ⟨m, hm, hu⟩ := List.mem_flatMap.1 h
  exact List.mem_flatMap.2 ⟨m, List.mem_of_mem_drop hm, hu⟩
/-- What stands ahead of a node, and behind it. -/
theorem nds_cut {w : World} {B n b off : Nat} {M : List Ndm} (h : Nds w B (some ⟨b, off, none⟩) n M) {k : Nat} (hk : k < n) :
    Reads w B 13 (some ⟨b, off, none⟩) k (cellsN (M.take k)) ∧ Reads w B 13 (some ⟨b, off + (k + 1) * 13, none⟩) (n - (k + 1)) (cellsN (M.drop (k + 1))) := by
  obtain ⟨b2, off2, e, hb, hc⟩ := h.rd.2 (by omega)
  injection e with e
  injection e with e1 e2 _
  subst e1
  subst e2
  have hn := h.num
  refine ⟨⟨by rw [cellsN_length, List.length_take]; congr 1; omega, fun _ => ⟨b, off, rfl, hb, fun j u hu => ?_⟩⟩, ⟨by rw [cellsN_length, List.length_drop, ← hn], fun _ => ⟨b, _, rfl, hb, fun j u hu => ?_⟩⟩⟩
  · refine hc j u ?_
    have e : cellsN M = cellsN (M.take k) ++ cellsN (M.drop k) := by rw [← cellsN_app, List.take_append_drop]
    rw [e, List.getElem?_append_left (by rcases Nat.lt_or_ge j (cellsN (M.take k)).length with h | h; exact h; rw [List.getElem?_eq_none h] at hu; cases hu)]
    exact hu
  · rw [Nat.add_assoc]
    refine hc _ u ?_
    have e : cellsN M = cellsN (M.take (k + 1)) ++ cellsN (M.drop (k + 1)) := by rw [← cellsN_app, List.take_append_drop]
    have hl : (cellsN (M.take (k + 1))).length = (k + 1) * 13 := by rw [cellsN_length, List.length_take]; congr 1; omega
    rw [e, List.getElem?_append_right (by omega), hl, Nat.add_sub_cancel_left]
    exact hu
end Go.Proofs.Ytddngibfhklnfaa
