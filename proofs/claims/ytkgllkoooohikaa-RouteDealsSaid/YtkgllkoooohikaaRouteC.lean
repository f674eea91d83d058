/- The contracts of package route, third part, and of the references that its laws use. -/
import Derived.Test.YtkgllkoooohikaaRouteB
namespace Go.Proofs.Ytkgllkoooohikaa
open Go.RowKit Go.Fb

def hasI (xs : List Int) (n : Int) : Bool := xs.any (· == n)
theorem hasI_succ {xs : List Int} {k : Nat} {x : Int} (n : Int) (h : xs[k]? = some x) : hasI (xs.take (k + 1)) n = (hasI (xs.take k) n || x == n) := by
  unfold hasI
  rw [List.take_add_one, h, List.any_append]
  simp
theorem hasI_hit {xs : List Int} {k : Nat} {x n : Int} (h : xs[k]? = some x) (he : (x == n) = true) : hasI xs n = true := by
  unfold hasI
  rw [List.any_eq_true]
  exact ⟨x, List.mem_of_getElem? h, he⟩

def IdxOut (xs : List Int) (v : Int) (w : World) (e : Ending) (w' : World) : Prop := ∃ i : Int, e = .returned (.int .i64 i) ∧ (0 ≤ i ↔ hasI xs v = true) ∧ w = w'
def intsEq (xs ys : List Int) : Bool := decide (xs = ys)
set_option maxRecDepth 100000 in
theorem lright_any (p : Int) (r : Nat → Int) (w : World) : Calls Try.prog 32 #[.int .i64 p, A8 r] w fun e w' => e = .returned (.bool (right8 p r)) ∧ Fr w.heap.size [] w w' := by
  go_enter Try.func32, Try.ntmps32
  go_wp2_with fail
  go_loop [8] (fun i => ∃ k : Nat, k ≤ 8 ∧ i = .int .i64 k ∧ inTo p r k = true) (fun i => 8 - (intOf i).toNat)
  case atStart => exact ⟨0, by omega, rfl, rfl⟩
  case round =>
    obtain ⟨k, hk, rfl, hall⟩ := hrel
    by_cases hlt : k < 8
    · have hx := index8 r hlt
      have HA := Lib.hid hall
      clear hall
      have hnext : inTo p r (k + 1) = decide (0 ≤ r k ∧ r k < p) := by rw [inTo_succ, HA.out]; simp
      have HN := Lib.hid hnext
      clear hnext
      have hbad : ¬ (0 ≤ r k ∧ r k < p) → right8 p r = false := fun h => by rw [right8, inTo_bad hlt h]; simp
      have HB := Lib.hid hbad
      clear hbad
      by_cases c1 : r k < 0
      · go_wp2_with fail
        go_ret
        exact ⟨by rw [HB.out (by omega)]; rfl, (Fr.refl _ _ _).alloc (Nat.le_refl _) _⟩
      by_cases c2 : p ≤ r k
      · go_wp2_with fail
        go_ret
        exact ⟨by rw [HB.out (by omega)]; rfl, (Fr.refl _ _ _).alloc (Nat.le_refl _) _⟩
      · go_wp2_with fail
        go_round
        case rel => exact ⟨k + 1, by omega, by go_num, by rw [HN.out]; simp; omega⟩
        case measure => simp [intOf]; omega
    · obtain rfl : k = 8 := by omega
      have HA := Lib.hid hall
      have HV := Lib.hid (show right8 p r = decide (1 ≤ p ∧ p ≤ 3) by rw [right8, hall]; simp)
      clear hall
      by_cases c1 : 1 ≤ p
      · by_cases c2 : p ≤ 3
        · go_wp2_with fail
          go_ret
          exact ⟨by rw [HV.out, decide_eq_true (show 1 ≤ p ∧ p ≤ 3 from ⟨c1, c2⟩)]; simp, (Fr.refl _ _ _).alloc (Nat.le_refl _) _⟩
        · go_wp2_with fail
          go_ret
          exact ⟨by rw [HV.out, decide_eq_false (show ¬ (1 ≤ p ∧ p ≤ 3) by omega)]; simp, (Fr.refl _ _ _).alloc (Nat.le_refl _) _⟩
      · go_wp2_with fail
        go_ret
        exact ⟨by rw [HV.out, decide_eq_false (show ¬ (1 ≤ p ∧ p ≤ 3) by omega)]; rfl, (Fr.refl _ _ _).alloc (Nat.le_refl _) _⟩
end Go.Proofs.Ytkgllkoooohikaa
