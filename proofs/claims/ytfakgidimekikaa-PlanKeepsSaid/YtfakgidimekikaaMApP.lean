/- Texts merged into one, for the number of files a claim may have: ApP. -/
import Derived.Test.YtfakgidimekikaaMI
namespace Go.Proofs.Ytfakgidimekikaa
open Go.RowKit Go.Fb
set_option linter.unusedVariables false
theorem goN_zero : ∀ (p : List Stp) (i : Nat) (L : List Nd), (goN i L p).1 = 0 → (goN i L p).2.1 = 0
  | [], _, _, _ => rfl
  | s :: p, i, L, h => by
    unfold goN at h ⊢
    by_cases e : (stepN L s).1 ≠ 0
    · rw [if_pos e] at h; exact absurd h e
    · rw [if_neg e] at h ⊢; exact goN_zero p (i + 1) _ h
theorem applyN_zero {L : List Nd} {p : List Stp} (h : (applyN L p).1 = 0) : (applyN L p).2.1 = 0 := by
  unfold applyN at h ⊢
  split at h
  · cases h
  split at h
  · cases h
  rename_i h1 h2
  rw [if_neg h1, if_neg h2]
  exact goN_zero p 0 L h
theorem apply_uni {L : List Nd} {p : List Stp} {r : Int × Nat × List Nd} {w w' : World} {e : Ending} (hr : r = applyN L p) (h : ApOut r w e w') :
    ∃ A c n, e = .returned (.tuple #[.slice A n c, .int .i64 (r.2.1 : Int), .int .i64 r.1]) ∧ Fr w.heap.size [] w w' ∧ (r.1 ≠ 0 → n = 0 ∧ A = none ∧ c = 0) ∧ (r.1 = 0 → n ≠ 0 ∧ ∃ M, Nmd w.heap.size w' A n c M ∧ fstN M = r.2.2 ∧ RightG r.2.2) := by
  rcases h with ⟨h1, rfl, hf⟩ | ⟨h1, A, c, n, M, rfl, hn, hm, hg, hf⟩
  · exact ⟨none, 0, 0, rfl, hf, fun _ => ⟨rfl, rfl, rfl⟩, fun h => absurd h h1⟩
  · have h2 : r.2.1 = 0 := by rw [hr] at h1 ⊢; exact applyN_zero h1
    refine ⟨A, c, n, by rw [h1, h2]; rfl, hf, fun h => absurd h1 h, fun _ => ⟨?_, M, hn, hm, hg⟩⟩
    have := len_ne hg
    rw [← hm] at this
    rw [hn.num]
    simpa [fstN] using this
theorem step_uni {r : Int × List Nd} {w w' : World} {e : Ending} (h : PStepOut r w e w') :
    ∃ A c n, e = .returned (.tuple #[.slice A n c, .int .i64 r.1]) ∧ Fr w.heap.size [] w w' ∧ (r.1 ≠ 0 → n = 0 ∧ A = none ∧ c = 0) ∧ (r.1 = 0 → ∃ M, Nmd w.heap.size w' A n c M ∧ fstN M = r.2) := by
  rcases h with ⟨h1, rfl, hf⟩ | ⟨h1, A, c, n, M, rfl, hn, hm, hf⟩
  · exact ⟨none, 0, 0, rfl, hf, fun _ => ⟨rfl, rfl, rfl⟩, fun h => absurd h h1⟩
  · exact ⟨A, c, n, by rw [h1], hf, fun h => absurd h1 h, fun _ => ⟨M, hn, hm⟩⟩
theorem small_right' {M : List Ndm} {L : List Nd} (h : RightG L) (e : fstN M = L) : Small M := small_right (by rw [e]; exact h)
end Go.Proofs.Ytfakgidimekikaa
