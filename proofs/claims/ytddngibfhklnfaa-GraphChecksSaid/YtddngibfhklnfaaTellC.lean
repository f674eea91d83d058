/- What the document's answer for the check keeps in memory: a depth is laid, a place is laid behind. -/
import Derived.Test.YtddngibfhklnfaaTellA
namespace Go.Proofs.Ytddngibfhklnfaa
open Go.RowKit Go.Fb
theorem TMem.setD {w0 : World} {k3 gm B n c gd : Nat} {vT : Value} {W : WS} {w : World} (h : TMem w0 k3 gm B n (.slice (some ⟨gd, 0, none⟩) n c) vT W w) (k : Nat) (d : Int) :
    TMem w0 k3 gm B n (.slice (some ⟨gd, 0, none⟩) n c) vT { W with D := updC W.D k d } (w.setCell ⟨gd, k, none⟩ (.int .i64 d)) := by
  have o1 := h.o1
  have o2 := h.o2
  have o3 := h.o3
  have hgd := (h.dep.lt gd rfl).1
  refine ⟨h.res.far (p := ⟨gd, k, none⟩) (by show w0.heap.size ≠ gd; omega) _, h.blk.far (p := ⟨gd, k, none⟩) (by show k3 ≠ gd; omega) _, ?_, ?_, ?_, h.dis, h.fr.setCell (p := ⟨gd, k, none⟩) (.inl (by show w0.heap.size ≤ gd; omega)) _, o1, o2, o3, by simpa [World.setCell] using h.sz⟩
  · exact h.map.fr ((Fr.refl w.heap.size [gd] w).setCell (p := ⟨gd, k, none⟩) (.inr (by simp)) _) h.map.lt (by simp; omega)
  · have := ownsRow_put h.dep k (.int .i64 d)
    rw [intsL_set] at this
    exact this
  · exact Go.Fb.ownsRow_setCell_other h.todo (p := ⟨gd, k, none⟩) (fun e => h.dis gd rfl e) _
theorem TMem.growT {w0 : World} {k3 gm B n : Nat} {vD vT v' : Value} {W : WS} {w w2 : World} {o : Obj} {x : Tri} (h : TMem w0 k3 gm B n vD vT W w) (hown : w2.ownsRow B 107 3 v' (W.todo.length + 1) (cellsT W.todo ++ triC x))
    (hg : (w.alloc o).grownBy w2 vT.ownBlock) (hat : v'.ownBlock = vT.ownBlock ∨ v'.ownBlock = some (w.heap.size + 1)) : TMem w0 k3 gm B n vD v' { W with todo := W.todo ++ [x] } w2 := by
  have sz := h.sz
  have o1 := h.o1
  have o2 := h.o2
  have o3 := h.o3
  have lt0 := h.res.lt
  have lt1 := h.blk.lt
  have lt2 := h.map.lt
  have hT : ∀ q, vT.ownBlock = some q → B ≤ q := fun q hq => (h.todo.lt q hq).1
  have fa : Fr w.heap.size [] w (w.alloc o) := (Fr.refl _ _ _).alloc (Nat.le_refl _) _
  have hr := (h.res.fr fa lt0 (by simp)).grown hg (fun e => by have := hT _ e.symm; omega)
  have hb := (h.blk.fr fa lt1 (by simp)).grown hg (fun e => by have := hT _ e.symm; omega)
  have hd : w2.ownsRow B 3 1 vD n (intsL n W.D) := (h.dep.alloc o).kept hg (by
    cases hv : vD.ownBlock with
    | none => exact .inl rfl
    | some q => exact .inr (fun e => h.dis q hv e.symm))
  have f2 : Fr w0.heap.size [] w0 w2 := (h.fr.trans (fa.mono h.fr.size (by simp))).grown hg (by have := h.fr.size; simp; omega) (fun q hq => .inl (by have := hT q hq; omega))
  have hs := hg.size
  simp at hs
  refine ⟨hr, hb, ?_, hd, ?_, ?_, f2, o1, o2, o3, by omega⟩
  · have fm : Fr B [] (w.alloc o) w2 := (Fr.refl _ _ _).grown hg (by simp; omega) (fun q hq => .inl (hT q hq))
    exact (h.map.fr fa lt2 (by simp)).fr fm (by omega) (by simp)
  · have e1 : cellsT (W.todo ++ [x]) = cellsT W.todo ++ triC x := by rw [cellsT_app]; simp [cellsT]
    show w2.ownsRow B _ 3 v' (W.todo ++ [x]).length (cellsT (W.todo ++ [x]))
    rw [e1, List.length_append]
    exact hown
  · intro q hq hv
    rcases hat with hat | hat
    · exact h.dis q hq (hat ▸ hv)
    · rw [hat] at hv
      injection hv with hv
      have := (h.dep.lt q hq).2
      omega
theorem TMem.keepL {w0 : World} {k3 gm B n g : Nat} {vD vT : Value} {W : WS} {w w' : World} (h : TMem w0 k3 gm B n vD vT W w) (hf : Fr w.heap.size [g] w w') (hg : B ≤ g) (hd : some g ≠ vD.ownBlock) (ht : some g ≠ vT.ownBlock) : TMem w0 k3 gm B n vD vT W w' := by
  have o1 := h.o1
  have o2 := h.o2
  have o3 := h.o3
  refine ⟨h.res.fr hf h.res.lt (by simp; omega), h.blk.fr hf h.blk.lt (by simp; omega), h.map.fr hf h.map.lt (by simp; omega), ownsRow_fr h.dep hf (fun q hq => ⟨(h.dep.lt q hq).2, ?_⟩), ownsRow_fr h.todo hf (fun q hq => ⟨(h.todo.lt q hq).2, ?_⟩), h.dis, h.fr.trans (hf.mono h.fr.size (by simp; omega)), o1, o2, o3, Nat.le_trans h.sz hf.size⟩
  · simp
    rintro rfl
    exact hd hq.symm
  · simp
    rintro rfl
    exact ht hq.symm
theorem succT_of {n : Nat} {p : Nat → Int × Int} {x : Tri} {i : Int × Int} (hi : i = p x.at_) : succT n p x = (nextsF n x.at_ i).map fun t => ⟨t, x.d - takesF i.1 + leavesF i.1, if i.1 = 14 then x.e + 1 else x.e⟩ := by
  subst hi; rfl
theorem Blk.app {w w2 : World} {o : Obj} {g : Nat} {t : TypeId} {cs : Array Value} {row : Option Nat} (h : Blk w g t cs) (hg : (w.alloc o).grownBy w2 row) (hne : row ≠ some g) : Blk w2 g t cs :=
  (h.alloc o).grown hg (fun e => hne e.symm)
end Go.Proofs.Ytddngibfhklnfaa
