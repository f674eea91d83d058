/- The contracts of package route, first part. -/
import Derived.Test.YtdkdhhfejbecdaaArr
namespace Go.Proofs.Ytdkdhhfejbecdaa
open Go.RowKit Go.Fb

/-- Is a route right? -/
def inTo (p : Int) (r : Nat → Int) (n : Nat) : Bool := (List.range n).all fun k => decide (0 ≤ r k ∧ r k < p)
theorem inTo_succ (p : Int) (r : Nat → Int) (k : Nat) : inTo p r (k + 1) = (inTo p r k && decide (0 ≤ r k ∧ r k < p)) := by
  unfold inTo
  rw [List.range_succ, List.all_append]; simp
theorem inTo_bad {p : Int} {r : Nat → Int} {k n : Nat} (hk : k < n) (h : ¬ (0 ≤ r k ∧ r k < p)) : inTo p r n = false := by
  unfold inTo
  rw [List.all_eq_false]
  exact ⟨k, by simpa using hk, by simpa using h⟩
def right8 (p : Int) (r : Nat → Int) : Bool := decide (1 ≤ p ∧ p ≤ 3) && inTo p r 8

set_option maxRecDepth 100000 in
theorem right_any (p : Int) (r : Nat → Int) (w : World) : Calls Try.prog 69 #[.int .i64 p, A8 r] w fun e w' => e = .returned (.bool (right8 p r)) ∧ Fr w.heap.size [] w w' := by
  by_cases h1 : p < 1
  · have hv : right8 p r = false := by simp [right8]; omega
    rw [hv]
    clear hv
    go_enter Try.func69, Try.ntmps69
    go_wp2_with fail
    go_ret
    exact ⟨rfl, (Fr.refl _ _ _).alloc (Nat.le_refl _) _⟩
  by_cases h2 : 3 < p
  · have hv : right8 p r = false := by simp [right8]; omega
    rw [hv]
    clear hv
    go_enter Try.func69, Try.ntmps69
    go_wp2_with fail
    go_ret
    exact ⟨rfl, (Fr.refl _ _ _).alloc (Nat.le_refl _) _⟩
  have hv : right8 p r = inTo p r 8 := by
    have : decide (1 ≤ p ∧ p ≤ 3) = true := by simp; omega
    rw [right8, this, Bool.true_and]
  rw [hv]
  clear hv
  go_enter Try.func69, Try.ntmps69
  go_wp2_with fail
  go_loop [14] (fun i => ∃ k : Nat, k ≤ 8 ∧ i = .int .i64 k ∧ inTo p r k = true) (fun i => 8 - (intOf i).toNat)
  case atStart => exact ⟨0, by omega, rfl, rfl⟩
  case round =>
    obtain ⟨k, hk, rfl, hall⟩ := hrel
    by_cases hlt : k < 8
    · have hx := index8 r hlt
      have HA := Lib.hid hall
      clear hall
      have hnext : inTo p r (k + 1) = decide (0 ≤ r k ∧ r k < p) := by rw [inTo_succ, HA.out]; simp
      have HN := Lib.hid hnext
      clear hnext
      have hbad : ¬ (0 ≤ r k ∧ r k < p) → inTo p r 8 = false := by
        exact inTo_bad hlt
      have HB := Lib.hid hbad
      clear hbad
      by_cases c1 : r k < 0
      · go_wp2_with fail
        go_ret
        exact ⟨by rw [HB.out (by omega)]; rfl, (Fr.refl _ _ _).alloc (Nat.le_refl _) _⟩
      by_cases c2 : p ≤ r k
      · go_wp2_with fail
        go_ret
        exact ⟨by rw [HB.out (by omega)]; rfl, (Fr.refl _ _ _).alloc (Nat.le_refl _) _⟩
      · go_wp2_with fail
        go_round
        case rel => exact ⟨k + 1, by omega, by go_num, by rw [HN.out]; simp; omega⟩
        case measure => simp [intOf]; omega
    · obtain rfl : k = 8 := by omega
      have HA := Lib.hid hall
      clear hall
      go_wp2_with fail
      go_ret
      exact ⟨by rw [HA.out]; rfl, (Fr.refl _ _ _).alloc (Nat.le_refl _) _⟩

/-- The least and the greatest number of tasks. -/
def clampP (p : Int) : Int := if p < 1 then 1 else if 3 < p then 3 else p
def evenR (p : Int) (k : Nat) : Int := (k : Int) * clampP p / 8

theorem C8_zero : (C8 fun _ => 0) = #[.int .i64 0, .int .i64 0, .int .i64 0, .int .i64 0, .int .i64 0, .int .i64 0, .int .i64 0, .int .i64 0] := rfl

theorem group_any (k : Int) (w : World) : Calls Try.prog 107 #[.int .i64 k] w fun e w' => e = .returned (.int .i64 (k % 8)) ∧ w = w' := by
  have t1 : k = 8 * k.tdiv 8 + k.tmod 8 := (Int.mul_tdiv_add_tmod k 8).symm
  have t2 : -8 < k.tmod 8 ∧ k.tmod 8 < 8 := by
    rcases Int.le_total 0 k with h | h
    · rw [Int.tmod_eq_emod_of_nonneg h]; omega
    · have := Int.neg_tmod k 8
      have h2 : (-k).tmod 8 = (-k) % 8 := Int.tmod_eq_emod_of_nonneg (by omega)
      omega
  obtain ⟨t3, t4⟩ := t2
  have T := Lib.hid t1
  clear t1
  go_enter Try.func107, Try.ntmps107
  go_wp2_with fail
  go_ret
  have h := T.out
  have hv : (k.tmod 8 + 8) % 8 = k % 8 := by omega
  exact ⟨by rw [← hv]; rfl, rfl⟩
end Go.Proofs.Ytdkdhhfejbecdaa
