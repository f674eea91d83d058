/- The contract of route.Parts. -/
import Derived.Test.YtkmkdodhahcpdaaRouteB
import Derived.Test.YtkmkdodhahcpdaaParts
import Derived.Deep.RegionLaw
import Derived.Deep.AppendLies
import Derived.Deep.DeepCutAuto
namespace Go.Proofs.Ytkmkdodhahcpdaa
open Go.RowKit Go.Fb
/-- Is an entry the node's, and its group the task's? -/
def inPart (id : Int) (r : Nat → Int) (t : Nat) (x : Nat → Int) : Bool := x 0 == id && r (x 1 % 8).toNat == (t : Int)
/-- The entries of a node's task. -/
def partC (id : Int) (r : Nat → Int) (t : Nat) (l : List (Nat → Int)) : List (Nat → Int) := l.filter (inPart id r t)
theorem partC_step {id : Int} {r : Nat → Int} {t : Nat} {l : List (Nat → Int)} {k : Nat} {x : Nat → Int} (h : l[k]? = some x) : partC id r t (l.take (k + 1)) = partC id r t (l.take k) ++ if inPart id r t x then [x] else [] := by
  unfold partC
  rw [List.take_add_one, h, List.filter_append]
  cases hi : inPart id r t x <;> simp [hi]
theorem partC_le (id : Int) (r : Nat → Int) (t : Nat) (l : List (Nat → Int)) : (partC id r t l).length ≤ l.length := List.length_filter_le _ _
/-- The cells of the rows. -/
def rowsA (par : Nat) (R : Nat → Value) : Array Value := ((List.range par).map R).toArray
theorem rowsA_get {par t : Nat} (R : Nat → Value) (h : t < par) : (rowsA par R)[t]? = some (R t) := by simp [rowsA, h]
theorem rowsA_set {par t : Nat} (R : Nat → Value) (u : Value) (_h : t < par) : (rowsA par R).setIfInBounds t u = rowsA par (fun j => if j = t then u else R j) := by
  apply Array.ext_getElem?
  intro i
  rw [Array.getElem?_setIfInBounds]
  by_cases hi : i < par
  · by_cases e : t = i
    · subst e; simp [rowsA, hi]
    · have e' : ¬ i = t := fun h => e h.symm
      simp [rowsA, hi, e, e']
  · have e : ¬ t = i := by omega
    simp [rowsA, hi, e]
theorem entTy : SliceTy Try.prog 42 47 6 48 := SliceTy.mk' (z := .agg #[.int .i64 0, .int .i64 0, .int .i64 0, .int .i64 0, .int .i64 0, .int .i64 0]) Try.underlying42 (by kernel_rfl) rfl (by omega)
/-- The rows of the tasks, while they grow. -/
structure PInv (w0 : World) (gr par : Nat) (F : Nat → List (Nat → Int)) (R : Nat → Value) (w : World) : Prop where
  blk : Blk w gr 42 (rowsA par R)
  low : w0.heap.size ≤ gr
  own : ∀ t, t < par → w.ownsRow w0.heap.size 47 6 (R t) (F t).length (cellsE (F t))
  off : ∀ t, t < par → (R t).ownBlock ≠ some gr
  dis : ∀ t u, t < par → u < par → t ≠ u → ∀ q, (R t).ownBlock = some q → (R u).ownBlock ≠ some q
  fr : Fr w0.heap.size [] w0 w
theorem PInv.congr {w0 w : World} {gr par : Nat} {F G : Nat → List (Nat → Int)} {R : Nat → Value} (h : PInv w0 gr par F R w) (e : ∀ t, t < par → F t = G t) : PInv w0 gr par G R w :=
  ⟨h.blk, h.low, fun t ht => by rw [← e t ht]; exact h.own t ht, h.off, h.dis, h.fr⟩
theorem PInv.keep {w0 w w' : World} {gr par : Nat} {F : Nat → List (Nat → Int)} {R : Nat → Value} (h : PInv w0 gr par F R w) (hf : Fr w.heap.size [] w w') : PInv w0 gr par F R w' :=
  ⟨h.blk.fr hf h.blk.lt (by simp), h.low, fun t ht => ownsRow_fr (h.own t ht) hf (fun q hq => ⟨((h.own t ht).lt q hq).2, by simp⟩), h.off, h.dis, h.fr.trans (hf.mono h.fr.size (by simp))⟩
theorem PInv.drewN {w0 w : World} {gr par : Nat} {F : Nat → List (Nat → Int)} {R : Nat → Value} (h : PInv w0 gr par F R w) (m : Nat) : PInv w0 gr par F R (w.drewN m) := h.keep ((Fr.refl _ _ _).drewN m)
/-- One row has grown by an entry, and its header is laid back. -/
theorem PInv.grow {w0 w w' : World} {gr par t : Nat} {F : Nat → List (Nat → Int)} {R : Nat → Value} {x : Nat → Int} {g c : Nat} (h : PInv w0 gr par F R w) (ht : t < par)
    (hown : w'.ownsRow w0.heap.size 47 6 (.slice (some ⟨g, 0, none⟩) ((F t).length + 1) c) ((F t).length + 1) (cellsE (F t) ++ entC x))
    (hg : w.grownBy w' (R t).ownBlock) (hat : (R t).ownBlock = some g ∨ w.heap.size ≤ g) (hlt : g < w'.heap.size) :
    PInv w0 gr par (fun j => F j ++ if j = t then [x] else []) (fun j => if j = t then .slice (some ⟨g, 0, none⟩) ((F t).length + 1) c else R j) (w'.setCell ⟨gr, t, none⟩ (.slice (some ⟨g, 0, none⟩) ((F t).length + 1) c)) := by
  have hgr : g ≠ gr := by
    rcases hat with hat | hat
    · rintro rfl; exact h.off t ht hat
    · have := h.blk.lt; omega
  have hgo : ∀ u, u < par → u ≠ t → (R u).ownBlock ≠ some g := fun u hu hut hq => by
    rcases hat with hat | hat
    · exact h.dis t u ht hu (fun e => hut e.symm) g hat hq
    · have := ((h.own u hu).lt g hq).2; omega
  have hb := (h.blk.grown hg (fun e => h.off t ht e.symm)).set_ t (.slice (some ⟨g, 0, none⟩) ((F t).length + 1) c)
  rw [rowsA_set _ _ ht] at hb
  have fs : Fr w.heap.size [gr] w' (w'.setCell ⟨gr, t, none⟩ (.slice (some ⟨g, 0, none⟩) ((F t).length + 1) c)) := (Fr.refl _ _ _).setCell (.inr (by simp)) _
  have fs' : Fr w'.heap.size [gr] w' (w'.setCell ⟨gr, t, none⟩ (.slice (some ⟨g, 0, none⟩) ((F t).length + 1) c)) := (Fr.refl _ _ _).setCell (.inr (by simp)) _
  refine ⟨hb, h.low, fun u hu => ?_, fun u hu => ?_, fun u v hu hv huv q hq => ?_, ?_⟩
  · by_cases e : u = t
    · subst e
      simp only [↓reduceIte]
      rw [show (F u ++ [x]).length = (F u).length + 1 by simp, show cellsE (F u ++ [x]) = cellsE (F u) ++ entC x by simp [cellsE]]
      refine ownsRow_fr hown fs' (fun q hq => ?_)
      have : q = g := by injection hq with hq; exact hq.symm
      subst this
      exact ⟨hlt, by simpa using hgr⟩
    · simp only [e, ↓reduceIte, List.append_nil]
      have ho : w'.ownsRow w0.heap.size 47 6 (R u) (F u).length (cellsE (F u)) := (h.own u hu).kept hg (by
        cases hq : (R u).ownBlock with
        | none => exact .inl rfl
        | some q => exact .inr fun e' => h.dis u t hu ht e q hq e'.symm)
      exact ownsRow_fr ho fs' (fun q hq => ⟨(ho.lt q hq).2, by simp; rintro rfl; exact h.off u hu hq⟩)
  · by_cases e : u = t
    · subst e
      simp only [↓reduceIte]
      intro hq
      injection hq with hq
      exact hgr hq
    · simp only [e, ↓reduceIte]
      exact h.off u hu
  · by_cases e : u = t
    · subst e
      have e' : ¬ v = u := fun h => huv h.symm
      simp only [↓reduceIte] at hq
      simp only [e', ↓reduceIte]
      injection hq with hq
      have hq' : g = q := hq
      subst hq'
      exact hgo v hv e'
    · simp only [e, ↓reduceIte] at hq
      by_cases e2 : v = t
      · subst e2
        simp only [↓reduceIte]
        intro hq2
        injection hq2 with hq2
        have hq' : g = q := hq2
        subst hq'
        exact hgo u hu e hq
      · simp only [e2, ↓reduceIte]
        exact h.dis u v hu hv huv q hq
  · refine (h.fr.grown hg h.fr.size (fun k hk => .inl ((h.own t ht).lt k hk).1)).trans ?_
    exact (Fr.refl _ _ _).setCell (.inl h.low) _
theorem entrows (n : Nat) (h : n ≤ 64) (W : World) : (Instr.makeSlice 48 (.int .i64 (n : Int)) (.int .i64 (n : Int))).run Try.prog W = .ok (.slice (some ⟨W.heap.size, 0, none⟩) n n) (W.alloc (.cells (rowsA n (fun _ => .slice none 0 0)) 42)) := by
  have info : (Try.prog.info? 42).map (fun i => (i.zero, i.size, i.bytes)) = some (some (Value.slice none 0 0), 1, 24) := by kernel_rfl
  obtain ⟨i, hi, hz, hsz, hby⟩ := info_parts info
  have hr := run_make (P := Try.prog) W 48 42 i (.slice none 0 0) Try.underlying48 hi hz .i64 .i64 n n (by omega) (by omega) (by rw [hby]; omega) (by omega)
  simp only [Int.toNat_natCast] at hr
  have hmc : madeCells (Value.slice none 0 0).cells (n * i.size) = rowsA n (fun _ => .slice none 0 0) := by
    rw [hsz, Nat.mul_one]
    apply Array.ext
    · simp [size_madeCells, rowsA]
    · intro j h1 h2
      simp [madeCells, Value.cells, Nat.mod_one, rowsA]
  rw [hmc] at hr
  exact hr
end Go.Proofs.Ytkmkdodhahcpdaa
