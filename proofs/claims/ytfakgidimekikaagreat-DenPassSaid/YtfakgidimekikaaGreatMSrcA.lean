/- Texts merged into one, for the number of files a claim may have: SrcA. -/
import Derived.Test.YtfakgidimekikaaGreatMGau
import Derived.Test.YtfakgidimekikaaGreatMA
import Derived.Laws.MakeOwn
import Derived.Deep.RegionLaw
import Derived.Deep.AppendLies
namespace Go.Proofs.YtfakgidimekikaaGreat
open Go.RowKit Go.Fb
/-- The cells of a record. -/
def recC (x : Nat → Int) : List Value := [.int .i64 (x 0), .int .i64 (x 1), .int .i64 (x 2)]
def cellsR (l : List (Nat → Int)) : List Value := l.flatMap recC
theorem cellsR_length (l : List (Nat → Int)) : (cellsR l).length = l.length * 3 := by
  unfold cellsR
  induction l with
  | nil => rfl
  | cons x l ih => rw [List.flatMap_cons, List.length_append, ih]; simp [recC]; omega
theorem recC_get (x : Nat → Int) : ∀ j, j < 3 → (recC x)[j]? = some (.int .i64 (x j))
  | 0, _ => rfl
  | 1, _ => rfl
  | 2, _ => rfl
  | j + 3, h => by omega
theorem cellsR_get : ∀ {l : List (Nat → Int)} {k : Nat} {x : Nat → Int}, l[k]? = some x → ∀ j, j < 3 → (cellsR l)[k * 3 + j]? = some (.int .i64 (x j))
  | [], k, x, h, _, _ => by simp at h
  | y :: l, 0, x, h, j, hj => by
    simp at h
    subst h
    rw [cellsR, List.flatMap_cons, Nat.zero_mul, Nat.zero_add, List.getElem?_append_left (by simp [recC]; omega)]
    exact recC_get y j hj
  | y :: l, k + 1, x, h, j, hj => by
    rw [cellsR, List.flatMap_cons, List.getElem?_append_right (by simp [recC]; omega)]
    have ih := cellsR_get (l := l) (k := k) (x := x) (by simpa using h) j hj
    have e : (k + 1) * 3 + j - (recC y).length = k * 3 + j := by simp [recC]; omega
    rw [e]
    exact ih
theorem reads_rec {w : World} {B : Nat} {A : Option Addr} {l : List (Nat → Int)} (h : Reads w B 3 A l.length (cellsR l)) {k : Nat} {x : Nat → Int} (hx : l[k]? = some x) :
    ∃ b off, A = some ⟨b, off, none⟩ ∧ b < B ∧ ∀ j, j < 3 → w.cell? ⟨b, off + (k * 3 + j), none⟩ = some (.int .i64 (x j)) := by
  have hk : k < l.length := by
    rcases Nat.lt_or_ge k l.length with h | h
    · exact h
    · rw [List.getElem?_eq_none h] at hx; cases hx
  obtain ⟨b, off, e, hb, hc⟩ := h.2 (by omega)
  exact ⟨b, off, e, hb, fun j hj => hc _ _ (cellsR_get hx j hj)⟩
abbrev srcC (gp : Nat) : Array Value := #[.int .i64 0, .int .i64 0, .int .i64 0, .int .i64 0, .int .i64 0, .int .i64 0, .int .i64 0, .int .i64 0, .slice (some ⟨gp, 0, none⟩) 1 1]
/-- The node of one task. -/
abbrev node1 : Value := .agg #[.int .i64 0, .int .i64 0, .slice none 0 0, .slice none 0 0, .int .i64 1, .int .i64 0, .int .i64 0, .int .i64 0, .int .i64 0, .int .i64 0, .int .i64 0, .int .i64 0, .int .i64 0]
end Go.Proofs.YtfakgidimekikaaGreat
