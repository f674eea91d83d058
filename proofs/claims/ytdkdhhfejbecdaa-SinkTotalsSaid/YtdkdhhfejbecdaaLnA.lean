/- Lines of output: their cells, whether they may be, lists of them cloned and compared. -/
import Derived.Test.YtdkdhhfejbecdaaGauss
import Derived.Deep.DeepCutAuto
import Derived.Laws.Cover3
import Derived.Laws.StructEq
namespace Go.Proofs.Ytdkdhhfejbecdaa
open Go.RowKit Go.Fb
/-- The cells of a line. -/
def lnC (x : Nat → Int) : List Value := [.int .i64 (x 0), .int .i64 (x 1), .int .i64 (x 2), .int .i64 (x 3), .int .i64 (x 4)]
abbrev lnA (x : Nat → Int) : Array Value := #[.int .i64 (x 0), .int .i64 (x 1), .int .i64 (x 2), .int .i64 (x 3), .int .i64 (x 4)]
def cellsLn (l : List (Nat → Int)) : List Value := l.flatMap lnC
theorem cellsLn_app (a b : List (Nat → Int)) : cellsLn (a ++ b) = cellsLn a ++ cellsLn b := by simp [cellsLn]
theorem cellsLn_length (l : List (Nat → Int)) : (cellsLn l).length = l.length * 5 := by
  unfold cellsLn
  induction l with
  | nil => rfl
  | cons x l ih => rw [List.flatMap_cons, List.length_append, ih]; simp [lnC]; omega
theorem lnC_get (x : Nat → Int) : ∀ j, j < 5 → (lnC x)[j]? = some (.int .i64 (x j))
  | 0, _ => rfl
  | 1, _ => rfl
  | 2, _ => rfl
  | 3, _ => rfl
  | 4, _ => rfl
  | j + 5, h => by omega
theorem cellsLn_get : ∀ {l : List (Nat → Int)} {k : Nat} {x : Nat → Int}, l[k]? = some x → ∀ j, j < 5 → (cellsLn l)[k * 5 + j]? = some (.int .i64 (x j))
  | [], k, x, h, _, _ => by simp at h
  | y :: l, 0, x, h, j, hj => by
    simp at h
    subst h
    rw [cellsLn, List.flatMap_cons, Nat.zero_mul, Nat.zero_add, List.getElem?_append_left (by simp [lnC]; omega)]
    exact lnC_get y j hj
  | y :: l, k + 1, x, h, j, hj => by
    rw [cellsLn, List.flatMap_cons, List.getElem?_append_right (by simp [lnC]; omega)]
    have ih := cellsLn_get (l := l) (k := k) (x := x) (by simpa using h) j hj
    have e : (k + 1) * 5 + j - (lnC y).length = k * 5 + j := by simp [lnC]; omega
    rw [e]
    exact ih
theorem reads_ln {w : World} {B : Nat} {A : Option Addr} {l : List (Nat → Int)} (h : Reads w B 5 A l.length (cellsLn l)) {k : Nat} {x : Nat → Int} (hx : l[k]? = some x) :
    ∃ b off, A = some ⟨b, off, none⟩ ∧ b < B ∧ ∀ j, j < 5 → w.cell? ⟨b, off + (k * 5 + j), none⟩ = some (.int .i64 (x j)) := by
  have hk : k < l.length := by
    rcases Nat.lt_or_ge k l.length with h | h
    · exact h
    · rw [List.getElem?_eq_none h] at hx; cases hx
  obtain ⟨b, off, e, hb, hc⟩ := h.2 (by omega)
  exact ⟨b, off, e, hb, fun j hj => hc _ _ (cellsLn_get hx j hj)⟩
theorem lnC_one {l : List (Nat → Int)} : ∀ u ∈ cellsLn l, u.oneCell' = true := by
  intro u hu
  obtain ⟨x, _, hx⟩ := List.mem_flatMap.1 hu
  simp only [lnC, List.mem_cons, List.not_mem_nil, or_false] at hx
  rcases hx with rfl | rfl | rfl | rfl | rfl <;> rfl
theorem lineTy : SliceTy Try.prog 22 93 5 40 := SliceTy.mk' (z := .agg #[.int .i64 0, .int .i64 0, .int .i64 0, .int .i64 0, .int .i64 0]) Try.underlying22 (by kernel_rfl) rfl (by omega)
/-- May a number be, may a line be? -/
def numB (n m : Int) : Bool := decide (0 ≤ n ∧ n ≤ m)
def lineB (x : Nat → Int) : Bool := numB (x 0) 7 && (numB (x 1) 7 && (numB (x 2) 63 && valB (x 3) (x 4)))
set_option maxRecDepth 100000 in
theorem pnum_any (n m : Int) (w : World) : Calls Try.prog 96 #[.int .i64 n, .int .i64 m] w fun e w' => e = .returned (.bool (numB n m)) ∧ w = w' := by
  obtain ⟨v, hv⟩ : ∃ v, v = numB n m := ⟨_, rfl⟩
  rw [← hv]
  unfold numB at hv
  by_cases h0 : 0 ≤ n
  · by_cases h1 : n ≤ m
    · rw [decide_eq_true ⟨h0, h1⟩] at hv
      subst hv
      have hd : decide (n ≤ m) = true := decide_eq_true h1
      go_enter Try.func96, Try.ntmps96
      go_wp2_with fail
      go_ret
      exact ⟨rfl, rfl⟩
    · rw [decide_eq_false (fun h => h1 h.2)] at hv
      subst hv
      have hd : decide (n ≤ m) = false := decide_eq_false h1
      go_enter Try.func96, Try.ntmps96
      go_wp2_with fail
      go_ret
      exact ⟨rfl, rfl⟩
  · rw [decide_eq_false (fun h => h0 h.1)] at hv
    subst hv
    have hd : decide (0 ≤ n) = false := decide_eq_false h0
    go_enter Try.func96, Try.ntmps96
    go_wp2_with fail
    go_ret
    exact ⟨rfl, rfl⟩
set_option maxRecDepth 100000 in
theorem pline_any (x : Nat → Int) (w : World) : Calls Try.prog 57 #[.agg (lnA x)] w fun e w' => e = .returned (.bool (lineB x)) ∧ Fr w.heap.size [] w w' := by
  have H0 := Lib.hid (fun w => pnum_any (x 0) 7 w)
  have H1 := Lib.hid (fun w => pnum_any (x 1) 7 w)
  have H2 := Lib.hid (fun w => pnum_any (x 2) 63 w)
  have HG := Lib.hid (gright_any (x 3) (x 4))
  unfold lineB lnA
  generalize numB (x 0) 7 = b0 at *
  generalize numB (x 1) 7 = b1 at *
  generalize numB (x 2) 63 = b2 at *
  generalize valB (x 3) (x 4) = b3 at *
  generalize x 0 = y0 at *
  generalize x 1 = y1 at *
  generalize x 2 = y2 at *
  generalize x 3 = y3 at *
  generalize x 4 = y4 at *
  cases b0 with
  | false =>
    go_enter Try.func57, Try.ntmps57
    go_wp2_with fail
    refine (H0.out _).mono ?_
    rintro e w1 ⟨rfl, rfl⟩
    go_wp2_with fail
    go_ret
    exact ⟨rfl, (Fr.refl _ _ _).alloc (Nat.le_refl _) _⟩
  | true =>
    cases b1 with
    | false =>
      go_enter Try.func57, Try.ntmps57
      go_wp2_with fail
      refine (H0.out _).mono ?_
      rintro e w1 ⟨rfl, rfl⟩
      go_wp2_with fail
      refine (H1.out _).mono ?_
      rintro e w1 ⟨rfl, rfl⟩
      go_wp2_with fail
      go_ret
      exact ⟨rfl, (Fr.refl _ _ _).alloc (Nat.le_refl _) _⟩
    | true =>
      cases b2 with
      | false =>
        go_enter Try.func57, Try.ntmps57
        go_wp2_with fail
        refine (H0.out _).mono ?_
        rintro e w1 ⟨rfl, rfl⟩
        go_wp2_with fail
        refine (H1.out _).mono ?_
        rintro e w1 ⟨rfl, rfl⟩
        go_wp2_with fail
        refine (H2.out _).mono ?_
        rintro e w1 ⟨rfl, rfl⟩
        go_wp2_with fail
        go_ret
        exact ⟨rfl, (Fr.refl _ _ _).alloc (Nat.le_refl _) _⟩
      | true =>
        go_enter Try.func57, Try.ntmps57
        go_wp2_with fail
        refine (H0.out _).mono ?_
        rintro e w1 ⟨rfl, rfl⟩
        go_wp2_with fail
        refine (H1.out _).mono ?_
        rintro e w1 ⟨rfl, rfl⟩
        go_wp2_with fail
        refine (H2.out _).mono ?_
        rintro e w1 ⟨rfl, rfl⟩
        go_wp2_with fail
        refine (HG.out _).mono ?_
        rintro e w2 ⟨rfl, f2⟩
        have F2 := Lib.hid (((Fr.refl w.heap.size [] w).alloc (Nat.le_refl _) _).trans (f2.mono (by simp) (by simp)))
        clear f2
        go_wp2_with fail
        go_ret
        exact ⟨rfl, F2.out⟩
set_option maxRecDepth 100000 in
theorem lwrong_any (x : Nat → Int) (w : World) : Calls Try.prog 56 #[.agg (lnA x)] w fun e w' => e = .returned (.bool (!lineB x)) ∧ Fr w.heap.size [] w w' := by
  have H := Lib.hid (pline_any x)
  generalize lineB x = v at *
  unfold lnA at *
  go_enter Try.func56, Try.ntmps56
  go_wp2_with fail
  refine (H.out _).mono ?_
  rintro e w1 ⟨rfl, f1⟩
  have F1 := Lib.hid (((Fr.refl _ _ _).alloc (Nat.le_refl _) _).trans (f1.mono (by simp) (by simp)) : Fr w.heap.size [] w w1)
  clear f1
  go_wp2_with fail
  go_ret
  exact ⟨rfl, F1.out⟩
theorem recB_eq (k re im : Int) : recB k re im = (numB k 63 && valB re im) := by
  unfold recB numB
  rw [show decide (0 ≤ k ∧ k < 64) = decide (0 ≤ k ∧ k ≤ 63) by rw [decide_eq_decide]; omega]
end Go.Proofs.Ytdkdhhfejbecdaa
