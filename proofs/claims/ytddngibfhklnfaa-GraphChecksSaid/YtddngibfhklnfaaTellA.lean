/- What the document's answer for the check keeps in memory. -/
import Derived.Test.YtddngibfhklnfaaRef4
import Derived.Test.YtddngibfhklnfaaTriMap
import Derived.Test.YtddngibfhklnfaaCheck
import Derived.Test.YtddngibfhklnfaaCheckDead
namespace Go.Proofs.Ytddngibfhklnfaa
open Go.RowKit Go.Fb
/-- The cells of n ints, as a list. -/
def intsL (n : Nat) (D : Nat → Int) : List Value := (List.range n).map fun k => Value.int .i64 (D k)
theorem intsL_len (n : Nat) (D : Nat → Int) : (intsL n D).length = n := by simp [intsL]
theorem intsL_get {n k : Nat} (D : Nat → Int) (h : k < n) : (intsL n D)[k]? = some (.int .i64 (D k)) := by simp [intsL, h]
theorem intsL_set {n k : Nat} (D : Nat → Int) (u : Int) : (intsL n D).set k (.int .i64 u) = intsL n (updC D k u) := by
  apply List.ext_getElem?
  intro i
  rw [List.getElem?_set]
  by_cases hi : i < n
  · by_cases e : k = i
    · subst e; simp [intsL, updC, hi]
    · have e' : ¬ i = k := fun h => e h.symm
      simp [intsL, updC, hi, e, e']
  · by_cases e : k = i
    · subst e; simp [intsL, hi]
    · simp [intsL, hi, e]
theorem intsL_congr {n : Nat} {D D' : Nat → Int} (h : ∀ k, k < n → D k = D' k) : intsL n D = intsL n D' := by
  unfold intsL
  apply List.map_congr_left
  intro k hk
  rw [h k (by simpa using hk)]
theorem intsL_succ (n : Nat) (D : Nat → Int) : intsL (n + 1) D = intsL n D ++ [.int .i64 (D n)] := by
  unfold intsL; rw [List.range_succ, List.map_append]; rfl
/-- The cells of places. -/
def triC (x : Tri) : List Value := [.int .i64 x.at_, .int .i64 x.d, .int .i64 x.e]
def cellsT (l : List Tri) : List Value := l.flatMap triC
theorem cellsT_length (l : List Tri) : (cellsT l).length = l.length * 3 := by
  unfold cellsT
  induction l with
  | nil => rfl
  | cons x l ih => rw [List.flatMap_cons, List.length_append, ih]; simp [triC]; omega
theorem cellsT_app (l m : List Tri) : cellsT (l ++ m) = cellsT l ++ cellsT m := by unfold cellsT; rw [List.flatMap_append]
theorem cellsT_last (td : List Tri) (x : Tri) : (cellsT (td ++ [x]))[td.length * 3]? = some (.int .i64 x.at_) ∧ (cellsT (td ++ [x]))[td.length * 3 + 1]? = some (.int .i64 x.d) ∧ (cellsT (td ++ [x]))[td.length * 3 + 2]? = some (.int .i64 x.e) := by
  rw [cellsT_app]
  have e : cellsT [x] = triC x := by simp [cellsT]
  rw [e, List.getElem?_append_right (by rw [cellsT_length]; exact Nat.le_refl _), List.getElem?_append_right (by rw [cellsT_length]; omega), List.getElem?_append_right (by rw [cellsT_length]; omega), cellsT_length]
  rw [Nat.sub_self, show td.length * 3 + 1 - td.length * 3 = 1 by omega, show td.length * 3 + 2 - td.length * 3 = 2 by omega]
  exact ⟨rfl, rfl, rfl⟩
theorem triTy : SliceTy Try.prog 108 107 3 24 := SliceTy.mk' (z := .agg #[.int .i64 0, .int .i64 0, .int .i64 0]) Try.underlying108 (by kernel_rfl) rfl (by omega)
theorem dintTy : SliceTy Try.prog 28 3 1 8 := SliceTy.mk' (z := .int .i64 0) Try.underlying28 (by kernel_rfl) rfl (by omega)
/-- The cells of what is known. -/
abbrev knC (v : Value) (a b : Int) (x y z : Bool) : Array Value := #[v, .int .i64 a, .int .i64 b, .bool x, .bool y, .bool z]
def set6 (w : World) (g : Nat) (v : Value) (a b : Int) (x y z : Bool) : World :=
  (((((w.setCell ⟨g, 0, none⟩ v).setCell ⟨g, 1, none⟩ (.int .i64 a)).setCell ⟨g, 2, none⟩ (.int .i64 b)).setCell ⟨g, 3, none⟩ (.bool x)).setCell ⟨g, 4, none⟩ (.bool y)).setCell ⟨g, 5, none⟩ (.bool z)
theorem blk_set6 {w : World} {g t : Nat} {v0 : Value} {a0 b0 : Int} {x0 y0 z0 : Bool} (h : Blk w g t (knC v0 a0 b0 x0 y0 z0)) (v : Value) (a b : Int) (x y z : Bool) : Blk (set6 w g v a b x y z) g t (knC v a b x y z) :=
  (((((h.set_ 0 v).set_ 1 (.int .i64 a)).set_ 2 (.int .i64 b)).set_ 3 (.bool x)).set_ 4 (.bool y)).set_ 5 (.bool z)
theorem fr_set6 {B g : Nat} {L : List Nat} {a0 w : World} (h : Fr B L a0 w) (hg : B ≤ g ∨ g ∈ L) (v : Value) (a b : Int) (x y z : Bool) : Fr B L a0 (set6 w g v a b x y z) :=
  (((((h.setCell (p := ⟨g, 0, none⟩) hg _).setCell (p := ⟨g, 1, none⟩) hg _).setCell (p := ⟨g, 2, none⟩) hg _).setCell (p := ⟨g, 3, none⟩) hg _).setCell (p := ⟨g, 4, none⟩) hg _).setCell (p := ⟨g, 5, none⟩) hg _
/-- What lies in memory: the result's place, what is known, what was met, the depths, what is to do. -/
structure TMem (w0 : World) (k3 gm B n : Nat) (vD vT : Value) (W : WS) (w : World) : Prop where
  res : Blk w w0.heap.size 77 (knC (.slice none 0 0) 0 0 false false false)
  blk : Blk w k3 77 (knC vD W.mx W.em W.u0 W.u1 true)
  map : TriMap w gm W.met
  dep : w.ownsRow B 3 1 vD n (intsL n W.D)
  todo : w.ownsRow B 107 3 vT W.todo.length (cellsT W.todo)
  dis : ∀ q, vD.ownBlock = some q → vT.ownBlock ≠ some q
  fr : Fr w0.heap.size [] w0 w
  o1 : w0.heap.size < k3
  o2 : k3 < gm
  o3 : gm < B
  sz : B ≤ w.heap.size
theorem TMem.keep {w0 : World} {k3 gm B n : Nat} {vD vT : Value} {W : WS} {w w' : World} (h : TMem w0 k3 gm B n vD vT W w) (hf : Fr w.heap.size [] w w') : TMem w0 k3 gm B n vD vT W w' :=
  ⟨h.res.fr hf h.res.lt (by simp), h.blk.fr hf h.blk.lt (by simp), h.map.fr hf h.map.lt (by simp), ownsRow_fr h.dep hf (fun q hq => ⟨(h.dep.lt q hq).2, by simp⟩), ownsRow_fr h.todo hf (fun q hq => ⟨(h.todo.lt q hq).2, by simp⟩), h.dis, h.fr.trans (hf.mono h.fr.size (by simp)), h.o1, h.o2, h.o3, Nat.le_trans h.sz hf.size⟩
/-- A cell of what is known is written. -/
theorem TMem.setK {w0 : World} {k3 gm B n : Nat} {vD vT : Value} {W W' : WS} {w : World} (h : TMem w0 k3 gm B n vD vT W w) (j : Nat) (u : Value) (hm : W'.met = W.met) (hD : W'.D = W.D) (ht : W'.todo = W.todo)
    (hc : (knC vD W.mx W.em W.u0 W.u1 true).setIfInBounds j u = knC vD W'.mx W'.em W'.u0 W'.u1 true) : TMem w0 k3 gm B n vD vT W' (w.setCell ⟨k3, j, none⟩ u) := by
  have hb := h.blk.set_ j u
  rw [hc] at hb
  refine ⟨h.res.far (p := ⟨k3, j, none⟩) (by have := h.o1; show w0.heap.size ≠ k3; omega) u, hb, ?_, ?_, ?_, h.dis, h.fr.setCell (p := ⟨k3, j, none⟩) (.inl (by have := h.o1; show w0.heap.size ≤ k3; omega)) u, h.o1, h.o2, h.o3, by simpa [World.setCell] using h.sz⟩
  · rw [hm]
    exact h.map.fr ((Fr.refl w.heap.size [k3] w).setCell (p := ⟨k3, j, none⟩) (.inr (by simp)) u) h.map.lt (by have := h.o2; simp; omega)
  · rw [hD]
    refine Go.Fb.ownsRow_setCell_other h.dep (p := ⟨k3, j, none⟩) (fun e => ?_) u
    have := (h.dep.lt _ e).1
    have := h.o2; have := h.o3
    simp at *; omega
  · rw [ht]
    refine Go.Fb.ownsRow_setCell_other h.todo (p := ⟨k3, j, none⟩) (fun e => ?_) u
    have := (h.todo.lt _ e).1
    have := h.o2; have := h.o3
    simp at *; omega
end Go.Proofs.Ytddngibfhklnfaa
