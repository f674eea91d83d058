/- Texts merged into one, for the number of files a claim may have: CheckDead, TellA, TellC. -/
import Derived.Test.YtfakgidimekikaaGreatMChk
import Derived.Test.YtfakgidimekikaaGreatMA
import Derived.Test.YtfakgidimekikaaGreatMTri
import Derived.ChangeKeysEq
import Derived.Deep.DeepCutAuto
namespace Go.Proofs.YtfakgidimekikaaGreat
open Go.RowKit Go.Fb
theorem chk_dead_l {l : List (Int × Int)} {s : CS} {k : Nat} {i : Int × Int} (h : chkL l = some s) (hd : s.D k = -1) (hi : rightB i = true) : chkL (l.set k i) = some s := by
  unfold chkL at h ⊢
  by_cases hf : fitsB l = true
  · rw [if_pos hf] at h
    have hf2 : fitsB (l.set k i) = true := by
      unfold fitsB at hf ⊢
      rw [Bool.and_eq_true, List.all_eq_true] at hf ⊢
      refine ⟨by rw [List.length_set]; exact hf.1, fun x hx => ?_⟩
      rcases List.mem_or_eq_of_mem_set hx with hx | rfl
      · exact hf.2 x hx
      · exact hi
    rw [if_pos hf2, List.length_set]
    refine check_dead (k := k) (fun j hj => ?_) (Nat.le_refl _) h hd
    unfold pF
    rw [List.getD_eq_getElem?_getD, List.getD_eq_getElem?_getD, List.getElem?_set_ne (fun e => hj e.symm)]
  · rw [if_neg hf] at h; cases h
theorem cellsI_set {l : List (Int × Int)} {k : Nat} (hk : k < l.length) (i : Int × Int) : cellsI (l.set k i) = ((cellsI l).set (k * 2) (.int .i64 i.1)).set (k * 2 + 1) (.int .i64 i.2) := by
  induction l generalizing k with
  | nil => simp at hk
  | cons x l ih =>
    cases k with
    | zero => rfl
    | succ k =>
      have e : ∀ y : Int × Int, ∀ m : List (Int × Int), cellsI (y :: m) = .int .i64 y.1 :: .int .i64 y.2 :: cellsI m := fun _ _ => rfl
      rw [List.set_cons_succ, e, e, ih (by simpa using hk), show (k + 1) * 2 = k * 2 + 1 + 1 by omega]
      rfl
theorem ownsRow_put {w : World} {base e n g c size : Nat} {xs : List Value} (h : w.ownsRow base e size (.slice (some ⟨g, 0, none⟩) n c) n xs) (k : Nat) (u : Value) :
    (w.setCell ⟨g, k, none⟩ u).ownsRow base e size (.slice (some ⟨g, 0, none⟩) n c) n (xs.set k u) := by
  obtain ⟨hl, hc⟩ := h
  refine ⟨by rw [List.length_set]; exact hl, .inr ?_⟩
  rcases hc with ⟨hn, _⟩ | ⟨g', cap, cur, hv, hb, hg, h1, h2, h3, h4⟩
  · cases hn
  · have hv' := hv
    injection hv with hv1 hv2 hv3
    injection hv1 with hv1
    injection hv1 with hv1
    subst hv1
    refine ⟨g, cap, cur.setIfInBounds k u, hv', hb, ?_, h1, h2, by rw [Array.size_setIfInBounds]; exact h3, ?_⟩
    · simp [World.setCell, Array.getElem?_modify, hg]
    · rw [Array.toList_setIfInBounds, List.take_set, h4]
theorem own_frozen {w : World} {base e n g c size : Nat} {xs : List Value} (h : w.ownsRow base e size (.slice (some ⟨g, 0, none⟩) n c) n xs) (k : Nat) : w.frozen? ⟨g, k, none⟩ = false := by
  rcases h.2 with ⟨hn, _⟩ | ⟨g', cap, cur, hv, hb, hg, _⟩
  · cases hn
  · injection hv with hv
    injection hv with hv
    injection hv with hv
    subst hv
    simp [World.frozen?, hg]
theorem instrTy : SliceTy Tryz.prog 47 166 2 16 := SliceTy.mk' (z := .agg #[.int .i64 0, .int .i64 0]) Tryz.underlying47 (by kernel_rfl) rfl (by omega)
theorem downs_empty (w : World) : (w.alloc (.cells #[] 166)).ownsRow w.heap.size 166 2 (.slice (some ⟨w.heap.size, 0, none⟩) 0 0) 0 [] := by
  refine ⟨rfl, .inr ⟨w.heap.size, 0, #[], rfl, Nat.le_refl _, Blk.new _ _ _, ?_⟩⟩
  simp
theorem dinsC_one {l : List (Int × Int)} : ∀ u ∈ cellsI l, u.oneCell' = true := by
  intro u hu
  unfold cellsI at hu
  obtain ⟨x, _, hx⟩ := List.mem_flatMap.1 hu
  simp [insC] at hx
  rcases hx with rfl | rfl <;> rfl
theorem eqItems_bool {e : TypeId} {P : Program} (he : P.underlying e = some .bool) (hc : P.cellsOf e = 1) (d : Nat) (xs : Array Value) (f : Nat → Bool) (w : World) :
    ∀ is : List Nat, (∀ j ∈ is, xs[j]? = some (.bool (f j))) → (Op.eqItems (d + 1) e (P.cellsOf e) xs xs is).run P w = .ok true w
  | [], _ => by simp [Op.eqItems]
  | i :: is, h => by
    have h1 := h i (by simp)
    have ih := eqItems_bool he hc d xs f w is (fun j hj => h j (by simp [hj]))
    have p1 : (part e xs (i * P.cellsOf e)).run P w = .ok (.bool (f i)) w := by simp [part, isAgg, run_underlying he, hc, h1]
    have e1 : (Op.equalIn (d + 1) e (.bool (f i)) (.bool (f i))).run P w = .ok true w := by
      unfold Op.equalIn
      simp [run_underlying he]
    simp only [Op.eqItems, Sem.run_bind, p1, Result.andThen_ok, e1]
    simp [ih]
theorem uses_neq (a b : Bool) (w : World) : (binOp .neq 153 (.agg #[.bool a, .bool b]) (.agg #[.bool a, .bool b])).run Tryz.prog w = .ok (.bool false) w := by
  have info : (Tryz.prog.info? 4).map (fun i => (i.zero, i.size, i.bytes)) = some (some (.bool false), 1, 1) := by kernel_rfl
  obtain ⟨i, hi, _⟩ := info_parts info
  have h : (Op.equalIn 10000 153 (.agg #[.bool a, .bool b]) (.agg #[.bool a, .bool b])).run Tryz.prog w = .ok true w := by
    rw [run_equalIn_array w 9999 _ _ Tryz.underlying153 hi]
    exact eqItems_bool Tryz.underlying4 (by kernel_rfl) 9998 _ (fun j => if j = 0 then a else b) w _ (fun j hj => by
      have hj2 : j < 2 := by simpa using hj
      match j, hj2 with
      | 0, _ | 1, _ => rfl)
  simp only [binOp, Op.equal, Op.maxDepth, Sem.run_bind, h, Result.andThen_ok]
  rfl
end Go.Proofs.YtfakgidimekikaaGreat
namespace Go.Proofs.YtfakgidimekikaaGreat
open Go.RowKit Go.Fb
/-- The cells of n ints, as a list. -/
def intsL (n : Nat) (D : Nat → Int) : List Value := (List.range n).map fun k => Value.int .i64 (D k)
theorem intsL_len (n : Nat) (D : Nat → Int) : (intsL n D).length = n := by simp [intsL]
theorem intsL_get {n k : Nat} (D : Nat → Int) (h : k < n) : (intsL n D)[k]? = some (.int .i64 (D k)) := by simp [intsL, h]
theorem intsL_set {n k : Nat} (D : Nat → Int) (u : Int) : (intsL n D).set k (.int .i64 u) = intsL n (updC D k u) := by
  apply List.ext_getElem?
  intro i
  rw [List.getElem?_set]
  by_cases hi : i < n
  · by_cases e : k = i
    · subst e; simp [intsL, updC, hi]
    · have e' : ¬ i = k := fun h => e h.symm
      simp [intsL, updC, hi, e, e']
  · by_cases e : k = i
    · subst e; simp [intsL, hi]
    · simp [intsL, hi, e]
theorem intsL_congr {n : Nat} {D D' : Nat → Int} (h : ∀ k, k < n → D k = D' k) : intsL n D = intsL n D' := by
  unfold intsL
  apply List.map_congr_left
  intro k hk
  rw [h k (by simpa using hk)]
theorem intsL_succ (n : Nat) (D : Nat → Int) : intsL (n + 1) D = intsL n D ++ [.int .i64 (D n)] := by
  unfold intsL; rw [List.range_succ, List.map_append]; rfl
/-- The cells of places. -/
def triC (x : Tri) : List Value := [.int .i64 x.at_, .int .i64 x.d, .int .i64 x.e]
def cellsT (l : List Tri) : List Value := l.flatMap triC
theorem cellsT_length (l : List Tri) : (cellsT l).length = l.length * 3 := by
  unfold cellsT
  induction l with
  | nil => rfl
  | cons x l ih => rw [List.flatMap_cons, List.length_append, ih]; simp [triC]; omega
theorem cellsT_app (l m : List Tri) : cellsT (l ++ m) = cellsT l ++ cellsT m := by unfold cellsT; rw [List.flatMap_append]
theorem cellsT_last (td : List Tri) (x : Tri) : (cellsT (td ++ [x]))[td.length * 3]? = some (.int .i64 x.at_) ∧ (cellsT (td ++ [x]))[td.length * 3 + 1]? = some (.int .i64 x.d) ∧ (cellsT (td ++ [x]))[td.length * 3 + 2]? = some (.int .i64 x.e) := by
  rw [cellsT_app]
  have e : cellsT [x] = triC x := by simp [cellsT]
  rw [e, List.getElem?_append_right (by rw [cellsT_length]; exact Nat.le_refl _), List.getElem?_append_right (by rw [cellsT_length]; omega), List.getElem?_append_right (by rw [cellsT_length]; omega), cellsT_length]
  rw [Nat.sub_self, show td.length * 3 + 1 - td.length * 3 = 1 by omega, show td.length * 3 + 2 - td.length * 3 = 2 by omega]
  exact ⟨rfl, rfl, rfl⟩
theorem triTy : SliceTy Tryz.prog 192 191 3 24 := SliceTy.mk' (z := .agg #[.int .i64 0, .int .i64 0, .int .i64 0]) Tryz.underlying192 (by kernel_rfl) rfl (by omega)
theorem dintTy : SliceTy Tryz.prog 46 3 1 8 := SliceTy.mk' (z := .int .i64 0) Tryz.underlying46 (by kernel_rfl) rfl (by omega)
/-- The cells of what is known. -/
abbrev knC (v : Value) (a b : Int) (x y z : Bool) : Array Value := #[v, .int .i64 a, .int .i64 b, .bool x, .bool y, .bool z]
def set6 (w : World) (g : Nat) (v : Value) (a b : Int) (x y z : Bool) : World :=
  (((((w.setCell ⟨g, 0, none⟩ v).setCell ⟨g, 1, none⟩ (.int .i64 a)).setCell ⟨g, 2, none⟩ (.int .i64 b)).setCell ⟨g, 3, none⟩ (.bool x)).setCell ⟨g, 4, none⟩ (.bool y)).setCell ⟨g, 5, none⟩ (.bool z)
theorem blk_set6 {w : World} {g t : Nat} {v0 : Value} {a0 b0 : Int} {x0 y0 z0 : Bool} (h : Blk w g t (knC v0 a0 b0 x0 y0 z0)) (v : Value) (a b : Int) (x y z : Bool) : Blk (set6 w g v a b x y z) g t (knC v a b x y z) :=
  (((((h.set_ 0 v).set_ 1 (.int .i64 a)).set_ 2 (.int .i64 b)).set_ 3 (.bool x)).set_ 4 (.bool y)).set_ 5 (.bool z)
theorem fr_set6 {B g : Nat} {L : List Nat} {a0 w : World} (h : Fr B L a0 w) (hg : B ≤ g ∨ g ∈ L) (v : Value) (a b : Int) (x y z : Bool) : Fr B L a0 (set6 w g v a b x y z) :=
  (((((h.setCell (p := ⟨g, 0, none⟩) hg _).setCell (p := ⟨g, 1, none⟩) hg _).setCell (p := ⟨g, 2, none⟩) hg _).setCell (p := ⟨g, 3, none⟩) hg _).setCell (p := ⟨g, 4, none⟩) hg _).setCell (p := ⟨g, 5, none⟩) hg _
/-- What lies in memory: the result's place, what is known, what was met, the depths, what is to do. -/
structure TMem (w0 : World) (k3 gm B n : Nat) (vD vT : Value) (W : WS) (w : World) : Prop where
  res : Blk w w0.heap.size 155 (knC (.slice none 0 0) 0 0 false false false)
  blk : Blk w k3 155 (knC vD W.mx W.em W.u0 W.u1 true)
  map : TriMap w gm W.met
  dep : w.ownsRow B 3 1 vD n (intsL n W.D)
  todo : w.ownsRow B 191 3 vT W.todo.length (cellsT W.todo)
  dis : ∀ q, vD.ownBlock = some q → vT.ownBlock ≠ some q
  fr : Fr w0.heap.size [] w0 w
  o1 : w0.heap.size < k3
  o2 : k3 < gm
  o3 : gm < B
  sz : B ≤ w.heap.size
theorem TMem.keep {w0 : World} {k3 gm B n : Nat} {vD vT : Value} {W : WS} {w w' : World} (h : TMem w0 k3 gm B n vD vT W w) (hf : Fr w.heap.size [] w w') : TMem w0 k3 gm B n vD vT W w' :=
  ⟨h.res.fr hf h.res.lt (by simp), h.blk.fr hf h.blk.lt (by simp), h.map.fr hf h.map.lt (by simp), ownsRow_fr h.dep hf (fun q hq => ⟨(h.dep.lt q hq).2, by simp⟩), ownsRow_fr h.todo hf (fun q hq => ⟨(h.todo.lt q hq).2, by simp⟩), h.dis, h.fr.trans (hf.mono h.fr.size (by simp)), h.o1, h.o2, h.o3, Nat.le_trans h.sz hf.size⟩
/-- A cell of what is known is written. -/
theorem TMem.setK {w0 : World} {k3 gm B n : Nat} {vD vT : Value} {W W' : WS} {w : World} (h : TMem w0 k3 gm B n vD vT W w) (j : Nat) (u : Value) (hm : W'.met = W.met) (hD : W'.D = W.D) (ht : W'.todo = W.todo)
    (hc : (knC vD W.mx W.em W.u0 W.u1 true).setIfInBounds j u = knC vD W'.mx W'.em W'.u0 W'.u1 true) : TMem w0 k3 gm B n vD vT W' (w.setCell ⟨k3, j, none⟩ u) := by
  have hb := h.blk.set_ j u
  rw [hc] at hb
  refine ⟨h.res.far (p := ⟨k3, j, none⟩) (by have := h.o1; show w0.heap.size ≠ k3; omega) u, hb, ?_, ?_, ?_, h.dis, h.fr.setCell (p := ⟨k3, j, none⟩) (.inl (by have := h.o1; show w0.heap.size ≤ k3; omega)) u, h.o1, h.o2, h.o3, by simpa [World.setCell] using h.sz⟩
  · rw [hm]
    exact h.map.fr ((Fr.refl w.heap.size [k3] w).setCell (p := ⟨k3, j, none⟩) (.inr (by simp)) u) h.map.lt (by have := h.o2; simp; omega)
  · rw [hD]
    refine Go.Fb.ownsRow_setCell_other h.dep (p := ⟨k3, j, none⟩) (fun e => ?_) u
    have := (h.dep.lt _ e).1
    have := h.o2; have := h.o3
    simp at *; omega
  · rw [ht]
    refine Go.Fb.ownsRow_setCell_other h.todo (p := ⟨k3, j, none⟩) (fun e => ?_) u
    have := (h.todo.lt _ e).1
    have := h.o2; have := h.o3
    simp at *; omega
end Go.Proofs.YtfakgidimekikaaGreat
namespace Go.Proofs.YtfakgidimekikaaGreat
open Go.RowKit Go.Fb
theorem TMem.setD {w0 : World} {k3 gm B n c gd : Nat} {vT : Value} {W : WS} {w : World} (h : TMem w0 k3 gm B n (.slice (some ⟨gd, 0, none⟩) n c) vT W w) (k : Nat) (d : Int) :
    TMem w0 k3 gm B n (.slice (some ⟨gd, 0, none⟩) n c) vT { W with D := updC W.D k d } (w.setCell ⟨gd, k, none⟩ (.int .i64 d)) := by
  have o1 := h.o1
  have o2 := h.o2
  have o3 := h.o3
  have hgd := (h.dep.lt gd rfl).1
  refine ⟨h.res.far (p := ⟨gd, k, none⟩) (by show w0.heap.size ≠ gd; omega) _, h.blk.far (p := ⟨gd, k, none⟩) (by show k3 ≠ gd; omega) _, ?_, ?_, ?_, h.dis, h.fr.setCell (p := ⟨gd, k, none⟩) (.inl (by show w0.heap.size ≤ gd; omega)) _, o1, o2, o3, by simpa [World.setCell] using h.sz⟩
  · exact h.map.fr ((Fr.refl w.heap.size [gd] w).setCell (p := ⟨gd, k, none⟩) (.inr (by simp)) _) h.map.lt (by simp; omega)
  · have := ownsRow_put h.dep k (.int .i64 d)
    rw [intsL_set] at this
    exact this
  · exact Go.Fb.ownsRow_setCell_other h.todo (p := ⟨gd, k, none⟩) (fun e => h.dis gd rfl e) _
theorem TMem.growT {w0 : World} {k3 gm B n : Nat} {vD vT v' : Value} {W : WS} {w w2 : World} {o : Obj} {x : Tri} (h : TMem w0 k3 gm B n vD vT W w) (hown : w2.ownsRow B 191 3 v' (W.todo.length + 1) (cellsT W.todo ++ triC x))
    (hg : (w.alloc o).grownBy w2 vT.ownBlock) (hat : v'.ownBlock = vT.ownBlock ∨ v'.ownBlock = some (w.heap.size + 1)) : TMem w0 k3 gm B n vD v' { W with todo := W.todo ++ [x] } w2 := by
  have sz := h.sz
  have o1 := h.o1
  have o2 := h.o2
  have o3 := h.o3
  have lt0 := h.res.lt
  have lt1 := h.blk.lt
  have lt2 := h.map.lt
  have hT : ∀ q, vT.ownBlock = some q → B ≤ q := fun q hq => (h.todo.lt q hq).1
  have fa : Fr w.heap.size [] w (w.alloc o) := (Fr.refl _ _ _).alloc (Nat.le_refl _) _
  have hr := (h.res.fr fa lt0 (by simp)).grown hg (fun e => by have := hT _ e.symm; omega)
  have hb := (h.blk.fr fa lt1 (by simp)).grown hg (fun e => by have := hT _ e.symm; omega)
  have hd : w2.ownsRow B 3 1 vD n (intsL n W.D) := (h.dep.alloc o).kept hg (by
    cases hv : vD.ownBlock with
    | none => exact .inl rfl
    | some q => exact .inr (fun e => h.dis q hv e.symm))
  have f2 : Fr w0.heap.size [] w0 w2 := (h.fr.trans (fa.mono h.fr.size (by simp))).grown hg (by have := h.fr.size; simp; omega) (fun q hq => .inl (by have := hT q hq; omega))
  have hs := hg.size
  simp at hs
  refine ⟨hr, hb, ?_, hd, ?_, ?_, f2, o1, o2, o3, by omega⟩
  · have fm : Fr B [] (w.alloc o) w2 := (Fr.refl _ _ _).grown hg (by simp; omega) (fun q hq => .inl (hT q hq))
    exact (h.map.fr fa lt2 (by simp)).fr fm (by omega) (by simp)
  · have e1 : cellsT (W.todo ++ [x]) = cellsT W.todo ++ triC x := by rw [cellsT_app]; simp [cellsT]
    show w2.ownsRow B _ 3 v' (W.todo ++ [x]).length (cellsT (W.todo ++ [x]))
    rw [e1, List.length_append]
    exact hown
  · intro q hq hv
    rcases hat with hat | hat
    · exact h.dis q hq (hat ▸ hv)
    · rw [hat] at hv
      injection hv with hv
      have := (h.dep.lt q hq).2
      omega
theorem TMem.keepL {w0 : World} {k3 gm B n g : Nat} {vD vT : Value} {W : WS} {w w' : World} (h : TMem w0 k3 gm B n vD vT W w) (hf : Fr w.heap.size [g] w w') (hg : B ≤ g) (hd : some g ≠ vD.ownBlock) (ht : some g ≠ vT.ownBlock) : TMem w0 k3 gm B n vD vT W w' := by
  have o1 := h.o1
  have o2 := h.o2
  have o3 := h.o3
  refine ⟨h.res.fr hf h.res.lt (by simp; omega), h.blk.fr hf h.blk.lt (by simp; omega), h.map.fr hf h.map.lt (by simp; omega), ownsRow_fr h.dep hf (fun q hq => ⟨(h.dep.lt q hq).2, ?_⟩), ownsRow_fr h.todo hf (fun q hq => ⟨(h.todo.lt q hq).2, ?_⟩), h.dis, h.fr.trans (hf.mono h.fr.size (by simp; omega)), o1, o2, o3, Nat.le_trans h.sz hf.size⟩
  · simp
    rintro rfl
    exact hd hq.symm
  · simp
    rintro rfl
    exact ht hq.symm
theorem succT_of {n : Nat} {p : Nat → Int × Int} {x : Tri} {i : Int × Int} (hi : i = p x.at_) : succT n p x = (nextsF n x.at_ i).map fun t => ⟨t, x.d - takesF i.1 + leavesF i.1, if i.1 = 14 then x.e + 1 else x.e⟩ := by
  subst hi; rfl
theorem Blk.app {w w2 : World} {o : Obj} {g : Nat} {t : TypeId} {cs : Array Value} {row : Option Nat} (h : Blk w g t cs) (hg : (w.alloc o).grownBy w2 row) (hne : row ≠ some g) : Blk w2 g t cs :=
  (h.alloc o).grown hg (fun e => hne e.symm)
end Go.Proofs.YtfakgidimekikaaGreat
