/- The contracts of package route, second part: lists of groups. -/
import Derived.Test.YtdkdhhfejbecdaaRouteA
namespace Go.Proofs.Ytdkdhhfejbecdaa
open Go.RowKit Go.Fb

theorem intsTy : SliceTy Try.prog 51 3 1 8 := SliceTy.mk' (z := .int .i64 0) Try.underlying51 (by kernel_rfl) rfl (by omega)
/-- A list of ints of the call's own is handed back; nothing that was there has turned. -/
def RetInts (w : World) (xs : List Int) (e : Ending) (w' : World) : Prop :=
  ∃ A c, e = .returned (.slice A xs.length c) ∧ w'.ownsRow w.heap.size 3 1 (.slice A xs.length c) xs.length (xs.map (Value.int .i64)) ∧ Fr w.heap.size [] w w'
/-- The groups of which something is so. -/
def someTo (p : Nat → Bool) (n : Nat) : List Int := ((List.range n).filter p).map fun k : Nat => (k : Int)
theorem someTo_succ (p : Nat → Bool) (k : Nat) : someTo p (k + 1) = someTo p k ++ if p k then [(k : Int)] else [] := by
  unfold someTo
  rw [List.range_succ, List.filter_append, List.map_append]
  cases h : p k <;> simp [h]
theorem someTo_length (p : Nat → Bool) (k : Nat) : (someTo p k).length ≤ k := by
  unfold someTo
  have := List.length_filter_le p (List.range k)
  simp at this ⊢
  omega

set_option maxRecDepth 100000 in
theorem task_any (r : Nat → Int) (k : Int) (w : World) : Calls Try.prog 71 #[A8 r, .int .i64 k] w fun e w' => e = .returned (.int .i64 (r (k % 8).toNat)) ∧ Fr w.heap.size [] w w' := by
  obtain ⟨m, hm⟩ := Int.eq_ofNat_of_zero_le (show 0 ≤ k % 8 by omega)
  have hm' : k % 8 = (m : Int) := hm
  have hm8 : m < 8 := by omega
  have hg := fun w => group_any k w
  rw [hm'] at hg ⊢
  rw [Int.toNat_natCast]
  have HG := Lib.hid hg
  have hc := (Blk.new w 53 (C8 r)).cell m
  rw [C8_get r hm8] at hc
  have hmi : (m : Int) < 8 := by omega
  clear hg hm hm'
  go_enter Try.func71, Try.ntmps71
  go_wp2_with (go_at_call 107; refine (HG.out _).mono ?_; rintro e w' ⟨rfl, rfl⟩)

  go_ret
  exact ⟨rfl, (Fr.refl _ _ _).alloc (Nat.le_refl _) _⟩
end Go.Proofs.Ytdkdhhfejbecdaa
