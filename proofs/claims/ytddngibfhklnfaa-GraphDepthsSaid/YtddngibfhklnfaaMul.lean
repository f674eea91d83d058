/- The contract of bits.Mul at 1 and a small number. -/
import Derived.Test.YtddngibfhklnfaaW
import Derived.Test.YtddngibfhklnfaaRows
namespace Go.Proofs.Ytddngibfhklnfaa
open Go.RowKit Go.Fb
set_option maxRecDepth 100000 in
set_option maxHeartbeats 4000000 in
theorem mul64_any (n : Nat) (hn : n ≤ 24) (w : World) : Calls Try.prog 133 #[.int .u64 1, .int .u64 n] w fun e w' => e = .returned (.tuple #[.int .u64 0, .int .u64 n]) ∧ w = w' := by
  have h : n = 0 ∨ n = 1 ∨ n = 2 ∨ n = 3 ∨ n = 4 ∨ n = 5 ∨ n = 6 ∨ n = 7 ∨ n = 8 ∨ n = 9 ∨ n = 10 ∨ n = 11 ∨ n = 12 ∨ n = 13 ∨ n = 14 ∨ n = 15 ∨ n = 16 ∨ n = 17 ∨ n = 18 ∨ n = 19 ∨ n = 20 ∨ n = 21 ∨ n = 22 ∨ n = 23 ∨ n = 24 := by omega
  rcases h with rfl | rfl | rfl | rfl | rfl | rfl | rfl | rfl | rfl | rfl | rfl | rfl | rfl | rfl | rfl | rfl | rfl | rfl | rfl | rfl | rfl | rfl | rfl | rfl | rfl
  all_goals
    go_enter Try.func133, Try.ntmps133
    go_wp2_with fail
    go_ret2
    exact ⟨rfl, rfl⟩
theorem mul_any (n : Nat) (hn : n ≤ 24) (w : World) : Calls Try.prog 128 #[.int .u64 1, .int .u64 n] w fun e w' => e = .returned (.tuple #[.int .u64 0, .int .u64 n]) ∧ w = w' := by
  have H := Lib.hid (mul64_any n hn)
  go_enter Try.func128, Try.ntmps128
  go_wp2_with fail
  refine (H.out _).mono ?_
  rintro e w' ⟨rfl, rfl⟩
  go_wp2_with fail
  go_ret2
  exact ⟨rfl, rfl⟩
end Go.Proofs.Ytddngibfhklnfaa
