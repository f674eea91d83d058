/- The bytes of an item of package align: the program's and the document's. -/
import Derived.Test.YtkmpcddhbdndkaaGauss
import Derived.Test.YtkmpcddhbdndkaaOctetRef
import Derived.Test.YtkmpcddhbdndkaaAlignA
namespace Go.Proofs.Ytkmpcddhbdndkaa
open Go.RowKit Go.Fb
/-- An item's bytes, if it may be. -/
def putI (b : Bool) (k re im ep : Int) (p : Bool) : Option (List Int) :=
  if b then (if 0 ≤ ep ∧ ep ≤ 2147483647 then some (66 :: (be ep ++ be (if p then 1 else 0))) else none)
  else (if recB k re im then some (82 :: (be k ++ (be re ++ be im))) else none)
def putS : Option (List Int) → ByteArray
  | some l => strOfNums l
  | none => ByteArray.empty
theorem str_cons (a : UInt8) (l : List Int) : (⟨#[a]⟩ : ByteArray) ++ strOfNums l = strOfNums ((a.toNat : Int) :: l) := by
  apply ByteArray.ext
  simp [strOfNums, ByteArray.data_append]
theorem str_app (l m : List Int) : strOfNums l ++ strOfNums m = strOfNums (l ++ m) := by
  apply ByteArray.ext
  simp [strOfNums, ByteArray.data_append]
theorem recB_fits {k re im : Int} (h : recB k re im = true) : fitsB k = true ∧ fitsB re = true ∧ fitsB im = true := by
  unfold recB valB at h
  simp only [Bool.and_eq_true, decide_eq_true_eq] at h
  simp only [fitsB, decide_eq_true_eq]
  omega
/-- A writer of the call's own writes numbers that lie in a new block. -/
theorem num_new {w0 : World} {g : Nat} (l : List Int) (hl : l.all fitsB = true) (hn : l.length ≤ 60) (bs : List Int) (hbs : bs.length ≤ 1000) (hw : ∀ base, Wr base w0 g bs) (hg : g < w0.heap.size) :
    Calls Try.prog 78 #[.pointer (some ⟨g, 0, none⟩), .slice (some ⟨w0.heap.size, 0, none⟩) l.length l.length] (w0.alloc (.cells (l.map (Value.int .i64)).toArray 3)) fun e w' =>
      e = .returned (.int .i64 0) ∧ Wr (w0.heap.size + 1) w' g (bs ++ l.flatMap be) ∧ Fr w0.heap.size [g] w0 w' := by
  have hf : Fr w0.heap.size [] w0 (w0.alloc (.cells (l.map (Value.int .i64)).toArray 3)) := (Fr.refl _ _ _).alloc (Nat.le_refl _) _
  refine (num_any (w0.heap.size + 1) g _ _ _ (w0.heap.size + 1) l bs _ (by omega) (by omega) ((hw _).fr hf hg (Nat.le_refl _) (by simp)) (by simp) ?_ (by simp) ?_).mono ?_
  · have h := Reads.of_blk (Blk.new w0 3 (l.map (Value.int .i64)).toArray) (m := l.length) (size := 1) (by simp)
    simpa using h
  · rintro - ad e
    injection e with e
    subst e
    exact (hw (w0.heap.size + 1)).apart_new hf
  · rintro e w' (⟨_, rfl, h1, h2⟩ | ⟨h, _⟩)
    · exact ⟨rfl, h1, (hf.mono (B' := w0.heap.size) (L' := [g]) (Nat.le_refl _) (by simp)).trans (h2.mono (B' := w0.heap.size) (L' := [g]) (by omega) (by simp))⟩
    · rw [hl] at h; cases h
end Go.Proofs.Ytkmpcddhbdndkaa
