/- Texts merged into one, for the number of files a claim may have: LnA. -/
import Derived.Test.YtfakgidimekikaaGreatMGau
import Derived.Deep.DeepCutAuto
import Derived.Laws.Cover3
import Derived.Laws.StructEq
namespace Go.Proofs.YtfakgidimekikaaGreat
open Go.RowKit Go.Fb
/-- The cells of a line. -/
def lnC (x : Nat → Int) : List Value := [.int .i64 (x 0), .int .i64 (x 1), .int .i64 (x 2), .int .i64 (x 3), .int .i64 (x 4)]
abbrev lnA (x : Nat → Int) : Array Value := #[.int .i64 (x 0), .int .i64 (x 1), .int .i64 (x 2), .int .i64 (x 3), .int .i64 (x 4)]
def cellsLn (l : List (Nat → Int)) : List Value := l.flatMap lnC
theorem cellsLn_app (a b : List (Nat → Int)) : cellsLn (a ++ b) = cellsLn a ++ cellsLn b := by simp [cellsLn]
theorem cellsLn_length (l : List (Nat → Int)) : (cellsLn l).length = l.length * 5 := by
  unfold cellsLn
  induction l with
  | nil => rfl
  | cons x l ih => rw [List.flatMap_cons, List.length_append, ih]; simp [lnC]; omega
theorem lnC_get (x : Nat → Int) : ∀ j, j < 5 → (lnC x)[j]? = some (.int .i64 (x j))
  | 0, _ => rfl
  | 1, _ => rfl
  | 2, _ => rfl
  | 3, _ => rfl
  | 4, _ => rfl
  | j + 5, h => by omega
theorem cellsLn_get : ∀ {l : List (Nat → Int)} {k : Nat} {x : Nat → Int}, l[k]? = some x → ∀ j, j < 5 → (cellsLn l)[k * 5 + j]? = some (.int .i64 (x j))
  | [], k, x, h, _, _ => by simp at h
  | y :: l, 0, x, h, j, hj => by
    simp at h
    subst h
    rw [cellsLn, List.flatMap_cons, Nat.zero_mul, Nat.zero_add, List.getElem?_append_left (by simp [lnC]; omega)]
    exact lnC_get y j hj
  | y :: l, k + 1, x, h, j, hj => by
    rw [cellsLn, List.flatMap_cons, List.getElem?_append_right (by simp [lnC]; omega)]
    have ih := cellsLn_get (l := l) (k := k) (x := x) (by simpa using h) j hj
    have e : (k + 1) * 5 + j - (lnC y).length = k * 5 + j := by simp [lnC]; omega
    rw [e]
    exact ih
theorem reads_ln {w : World} {B : Nat} {A : Option Addr} {l : List (Nat → Int)} (h : Reads w B 5 A l.length (cellsLn l)) {k : Nat} {x : Nat → Int} (hx : l[k]? = some x) :
    ∃ b off, A = some ⟨b, off, none⟩ ∧ b < B ∧ ∀ j, j < 5 → w.cell? ⟨b, off + (k * 5 + j), none⟩ = some (.int .i64 (x j)) := by
  have hk : k < l.length := by
    rcases Nat.lt_or_ge k l.length with h | h
    · exact h
    · rw [List.getElem?_eq_none h] at hx; cases hx
  obtain ⟨b, off, e, hb, hc⟩ := h.2 (by omega)
  exact ⟨b, off, e, hb, fun j hj => hc _ _ (cellsLn_get hx j hj)⟩
theorem lnC_one {l : List (Nat → Int)} : ∀ u ∈ cellsLn l, u.oneCell' = true := by
  intro u hu
  obtain ⟨x, _, hx⟩ := List.mem_flatMap.1 hu
  simp only [lnC, List.mem_cons, List.not_mem_nil, or_false] at hx
  rcases hx with rfl | rfl | rfl | rfl | rfl <;> rfl
theorem lineTy : SliceTy Tryz.prog 22 26 5 40 := SliceTy.mk' (z := .agg #[.int .i64 0, .int .i64 0, .int .i64 0, .int .i64 0, .int .i64 0]) Tryz.underlying22 (by kernel_rfl) rfl (by omega)
/-- May a number be, may a line be? -/
def numB (n m : Int) : Bool := decide (0 ≤ n ∧ n ≤ m)
def lineB (x : Nat → Int) : Bool := numB (x 0) 7 && (numB (x 1) 7 && (numB (x 2) 63 && valB (x 3) (x 4)))
theorem recB_eq (k re im : Int) : recB k re im = (numB k 63 && valB re im) := by
  unfold recB numB
  rw [show decide (0 ≤ k ∧ k < 64) = decide (0 ≤ k ∧ k ≤ 63) by rw [decide_eq_decide]; omega]
end Go.Proofs.YtfakgidimekikaaGreat
