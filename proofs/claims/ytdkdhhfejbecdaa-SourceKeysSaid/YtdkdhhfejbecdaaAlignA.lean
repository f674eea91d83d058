/- The contracts of package align, first part. -/
import Derived.Test.YtdkdhhfejbecdaaRows
import Derived.Test.YtdkdhhfejbecdaaW
import Derived.Laws.MakeOwn
namespace Go.Proofs.Ytdkdhhfejbecdaa
open Go.RowKit Go.Fb

/-- The cells of an item. -/
abbrev It (b : Bool) (k re im ep : Int) (p : Bool) : Array Value := #[.bool b, .int .i64 k, .int .i64 re, .int .i64 im, .int .i64 ep, .bool p]
/-- A block of an item after all its cells were written. -/
def set6 (w : World) (g : Nat) (u0 u1 u2 u3 u4 u5 : Value) : World :=
  (((((w.setCell ⟨g, 0, none⟩ u0).setCell ⟨g, 1, none⟩ u1).setCell ⟨g, 2, none⟩ u2).setCell ⟨g, 3, none⟩ u3).setCell ⟨g, 4, none⟩ u4).setCell ⟨g, 5, none⟩ u5
theorem blk_set6 {w : World} {g t : Nat} {a0 a1 a2 a3 a4 a5 : Value} {rest : List Value} (h : Blk w g t (a0 :: a1 :: a2 :: a3 :: a4 :: a5 :: rest).toArray) (u0 u1 u2 u3 u4 u5 : Value) :
    Blk (set6 w g u0 u1 u2 u3 u4 u5) g t (u0 :: u1 :: u2 :: u3 :: u4 :: u5 :: rest).toArray := by
  have h0 := h.set_ 0 u0
  simp only [List.setIfInBounds_toArray, List.set_cons_zero] at h0
  have h1 := h0.set_ 1 u1
  simp only [List.setIfInBounds_toArray, List.set_cons_succ, List.set_cons_zero] at h1
  have h2 := h1.set_ 2 u2
  simp only [List.setIfInBounds_toArray, List.set_cons_succ, List.set_cons_zero] at h2
  have h3 := h2.set_ 3 u3
  simp only [List.setIfInBounds_toArray, List.set_cons_succ, List.set_cons_zero] at h3
  have h4 := h3.set_ 4 u4
  simp only [List.setIfInBounds_toArray, List.set_cons_succ, List.set_cons_zero] at h4
  have h5 := h4.set_ 5 u5
  simp only [List.setIfInBounds_toArray, List.set_cons_succ, List.set_cons_zero] at h5
  exact h5
theorem fr_set6 {B g : Nat} {L : List Nat} {a w : World} (h : Fr B L a w) (hg : B ≤ g ∨ g ∈ L) (u0 u1 u2 u3 u4 u5 : Value) : Fr B L a (set6 w g u0 u1 u2 u3 u4 u5) :=
  (((((h.setCell (p := ⟨g, 0, none⟩) hg _).setCell (p := ⟨g, 1, none⟩) hg _).setCell (p := ⟨g, 2, none⟩) hg _).setCell (p := ⟨g, 3, none⟩) hg _).setCell (p := ⟨g, 4, none⟩) hg _).setCell (p := ⟨g, 5, none⟩) hg _
theorem blk_far6 {w : World} {g g' t : Nat} {cs : Array Value} (h : Blk w g t cs) (hne : g ≠ g') (u0 u1 u2 u3 u4 u5 : Value) : Blk (set6 w g' u0 u1 u2 u3 u4 u5) g t cs :=
  (((((h.far (p := ⟨g', 0, none⟩) hne _).far (p := ⟨g', 1, none⟩) hne _).far (p := ⟨g', 2, none⟩) hne _).far (p := ⟨g', 3, none⟩) hne _).far (p := ⟨g', 4, none⟩) hne _).far (p := ⟨g', 5, none⟩) hne _
/-- A result that lies in a row of cells, and one in a slot. -/
theorem results_row_tmp {P : Program} {fn : Func} {p q : Tmp} {ty : TypeId} (h : fn.results = #[.cell p ty, .tmp q]) (tmps : Array Value) (w : World) (g : Nat) (t : TypeId) (cs : Array Value) (fr : Nat × Nat) (d : TypeDesc)
    (hp : tmps.getD p undef = .pointer (some ⟨g, 0, none⟩)) (hg : w.heap[g]? = some (.cells cs t fr))
    (hu : P.underlying ty = some d) (hd : (match d with | .struct _ | .array _ _ => true | _ => false) = true) (hi : (P.info? ty).map (·.size) = some cs.size) :
    (results fn tmps).run P w = .ok (.tuple #[.agg cs, tmps.getD q undef]) w := by
  have hp' : tmps[p]?.getD undef = .pointer (some ⟨g, 0, none⟩) := by simpa using hp
  simp [results, h, hp', asAddr, run_loadVar_row w g t ty cs fr d hg hu hd hi]

theorem boolinfo : (Try.prog.info? 4).map (fun i => (i.zero, i.size, i.bytes)) = some (some (.bool false), 1, 1) := by kernel_rfl
section
variable {w : World} {g gb : Nat} {bs : List Bool} {b : Bool} {ep : Int} {p : Bool} {many last : Int}
/-- Is there a channel? -/
def inB (bs : List Bool) (c : Int) : Bool := decide (0 ≤ c ∧ c < (bs.length : Int))
theorem inB_of {c : Nat} {x : Bool} (hx : bs[c]? = some x) : inB bs (c : Int) = true := by
  have : c < bs.length := by
    rcases Nat.lt_or_ge c bs.length with h | h
    · exact h
    · rw [List.getElem?_eq_none h] at hx; cases hx
  simp [inB]; omega
abbrev It0 : Array Value := It false 0 0 0 0 false
/-- Do all meet? -/
def metB (many : Int) (n : Nat) : Bool := !(many == 0 || decide (many < (n : Int)))
end
end Go.Proofs.Ytdkdhhfejbecdaa
