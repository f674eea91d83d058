/- The order of totals: the closure that sink.Totals hands to slices.SortFunc. -/
import Derived.Test.YtdkdhhfejbecdaaLaySort
import Derived.Test.YtdkdhhfejbecdaaW
import Derived.StillTailTactics
namespace Go.Proofs.Ytdkdhhfejbecdaa
open Go.RowKit Go.Fb Go.Sort
/-- The order of numbers; the first that is not nought. -/
def cmpI (x y : Int) : Int := if x < y then -1 else if y < x then 1 else 0
def or3 (a b c : Int) : Int := if a ≠ 0 then a else if b ≠ 0 then b else c
/-- The cells of a total, and the order. -/
def totC (x : Nat → Int) : List Value := [.int .i64 (x 0), .int .i64 (x 1), .int .i64 (x 2), .int .i64 (x 3), .int .i64 (x 4), .int .i64 (x 5)]
def cfT (x y : Nat → Int) : Int := or3 (cmpI (x 0) (y 0)) (cmpI (x 1) (y 1)) (cmpI (x 2) (y 2))
theorem ltT (x y : Nat → Int) : ltOf cfT x y = decide (x 0 < y 0 ∨ x 0 = y 0 ∧ (x 1 < y 1 ∨ x 1 = y 1 ∧ x 2 < y 2)) := by
  unfold ltOf cfT or3 cmpI
  rw [decide_eq_decide]
  by_cases a : x 0 < y 0
  · simp [a]
  · by_cases a' : y 0 < x 0
    · simp [a, a']; omega
    · have e : x 0 = y 0 := by omega
      by_cases b : x 1 < y 1
      · simp [e, b]
      · by_cases b' : y 1 < x 1
        · simp [e, b, b']; omega
        · have e' : x 1 = y 1 := by omega
          by_cases c : x 2 < y 2
          · simp [e, e', c]
          · by_cases c' : y 2 < x 2 <;> simp [e, e', c, c']
theorem swoT : SWO (ltOf cfT) where
  irrefl x := by rw [ltT]; simp
  trans x y z h1 h2 := by rw [ltT] at *; simp only [decide_eq_true_eq] at *; omega
  ntrans x y z h1 h2 := by rw [ltT] at *; simp only [decide_eq_false_iff_not] at *; omega
set_option maxRecDepth 100000 in
theorem isnan_any (x : Int) (w : World) : Calls Try.prog 102 #[.int .i64 x] w fun e w' => e = .returned (.bool false) ∧ w = w' := by
  have h : (x != x) = false := by simp
  go_enter Try.func102, Try.ntmps102
  go_wp2_with fail
  go_ret
  exact ⟨by first | rfl | rw [h], rfl⟩
set_option maxRecDepth 100000 in
theorem compare_any (x y : Int) (w : World) : Calls Try.prog 64 #[.int .i64 x, .int .i64 y] w fun e w' => e = .returned (.int .i64 (cmpI x y)) ∧ w = w' := by
  obtain ⟨v, hv⟩ : ∃ v, v = cmpI x y := ⟨_, rfl⟩
  have HX := Lib.hid (isnan_any)
  rw [← hv]
  unfold cmpI at hv
  by_cases h1 : x < y
  · rw [if_pos h1] at hv
    subst hv
    go_enter Try.func64, Try.ntmps64
    go_wp2_with fail
    refine (HX.out _ _).mono ?_
    rintro e w' ⟨rfl, rfl⟩
    go_wp2_with fail
    refine (HX.out _ _).mono ?_
    rintro e w' ⟨rfl, rfl⟩
    go_wp2_with fail
    go_ret
    exact ⟨rfl, rfl⟩
  · have hd1 : decide (x < y) = false := decide_eq_false h1
    rw [if_neg h1] at hv
    by_cases h2 : y < x
    · rw [if_pos h2] at hv
      subst hv
      go_enter Try.func64, Try.ntmps64
      go_wp2_with fail
      refine (HX.out _ _).mono ?_
      rintro e w' ⟨rfl, rfl⟩
      go_wp2_with fail
      refine (HX.out _ _).mono ?_
      rintro e w' ⟨rfl, rfl⟩
      go_wp2_with fail
      go_ret
      exact ⟨rfl, rfl⟩
    · have hd2 : decide (y < x) = false := decide_eq_false h2
      rw [if_neg h2] at hv
      subst hv
      go_enter Try.func64, Try.ntmps64
      go_wp2_with fail
      refine (HX.out _ _).mono ?_
      rintro e w' ⟨rfl, rfl⟩
      go_wp2_with fail
      refine (HX.out _ _).mono ?_
      rintro e w' ⟨rfl, rfl⟩
      go_wp2_with fail
      go_ret
      exact ⟨rfl, rfl⟩
set_option maxRecDepth 100000 in
theorem or_any (a b c : Int) (g cp : Nat) (w : World) (hb : Blk w g 3 #[.int .i64 a, .int .i64 b, .int .i64 c]) : Calls Try.prog 63 #[.slice (some ⟨g, 0, none⟩) 3 cp] w fun e w' => e = .returned (.int .i64 (or3 a b c)) ∧ w = w' := by
  have x0 := hb.cell 0
  have x1 := hb.cell 1
  have x2 := hb.cell 2
  simp at x0 x1 x2
  obtain ⟨v, hv⟩ : ∃ v, v = or3 a b c := ⟨_, rfl⟩
  rw [← hv]
  unfold or3 at hv
  clear hb
  by_cases h1 : a = 0
  · rw [if_neg (by omega)] at hv
    have e1 : (a != 0) = false := by simp [h1]
    by_cases h2 : b = 0
    · rw [if_neg (by omega)] at hv
      have e2 : (b != 0) = false := by simp [h2]
      by_cases h3 : c = 0
      · have e3 : (c != 0) = false := by simp [h3]
        rw [h3] at hv
        subst hv
        clear h1 h2 h3
        go_enter Try.func63, Try.ntmps63
        go_wp2_with fail
        refine wp_loop_rounds 4 ?_
        repeat (rw [rounds_succ]; go_wp2_with fail)
        go_ret
        exact ⟨rfl, rfl⟩
      · have e3 : (c != 0) = true := by simp [h3]
        subst hv
        clear h1 h2 h3
        go_enter Try.func63, Try.ntmps63
        go_wp2_with fail
        refine wp_loop_rounds 4 ?_
        repeat (rw [rounds_succ]; go_wp2_with fail)
        go_ret
        exact ⟨rfl, rfl⟩
    · rw [if_pos h2] at hv
      have e2 : (b != 0) = true := by simp [h2]
      subst hv
      clear h1 h2
      go_enter Try.func63, Try.ntmps63
      go_wp2_with fail
      refine wp_loop_rounds 4 ?_
      repeat (rw [rounds_succ]; go_wp2_with fail)
      go_ret
      exact ⟨rfl, rfl⟩
  · rw [if_pos h1] at hv
    have e1 : (a != 0) = true := by simp [h1]
    subst hv
    clear h1
    go_enter Try.func63, Try.ntmps63
    go_wp2_with fail
    refine wp_loop_rounds 4 ?_
    repeat (rw [rounds_succ]; go_wp2_with fail)
    go_ret
    exact ⟨rfl, rfl⟩
end Go.Proofs.Ytdkdhhfejbecdaa
