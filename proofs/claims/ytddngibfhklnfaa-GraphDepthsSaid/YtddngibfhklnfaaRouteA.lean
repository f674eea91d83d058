/- The contracts of package route, first part. -/
import Derived.Test.YtddngibfhklnfaaArr
namespace Go.Proofs.Ytddngibfhklnfaa
open Go.RowKit Go.Fb

/-- Is a route right? -/
def inTo (p : Int) (r : Nat → Int) (n : Nat) : Bool := (List.range n).all fun k => decide (0 ≤ r k ∧ r k < p)
theorem inTo_succ (p : Int) (r : Nat → Int) (k : Nat) : inTo p r (k + 1) = (inTo p r k && decide (0 ≤ r k ∧ r k < p)) := by
  unfold inTo
  rw [List.range_succ, List.all_append]; simp
theorem inTo_bad {p : Int} {r : Nat → Int} {k n : Nat} (hk : k < n) (h : ¬ (0 ≤ r k ∧ r k < p)) : inTo p r n = false := by
  unfold inTo
  rw [List.all_eq_false]
  exact ⟨k, by simpa using hk, by simpa using h⟩
def right8 (p : Int) (r : Nat → Int) : Bool := decide (1 ≤ p ∧ p ≤ 3) && inTo p r 8

/-- The least and the greatest number of tasks. -/
def clampP (p : Int) : Int := if p < 1 then 1 else if 3 < p then 3 else p
def evenR (p : Int) (k : Nat) : Int := (k : Int) * clampP p / 8

theorem C8_zero : (C8 fun _ => 0) = #[.int .i64 0, .int .i64 0, .int .i64 0, .int .i64 0, .int .i64 0, .int .i64 0, .int .i64 0, .int .i64 0] := rfl

set_option maxRecDepth 100000 in
set_option maxHeartbeats 1000000 in
theorem even_any (p : Int) (w : World) : Calls Try.prog 41 #[.int .i64 p] w fun e w' => e = .returned (A8 (evenR p)) ∧ Fr w.heap.size [] w w' := by
  have hcl : (p < 1 ∧ clampP p = 1) ∨ (p = 1 ∧ clampP p = 1) ∨ (p = 2 ∧ clampP p = 2) ∨ (p = 3 ∧ clampP p = 3) ∨ (3 < p ∧ clampP p = 3) := by
    unfold clampP
    by_cases h1 : p < 1
    · simp [h1]
    · by_cases h2 : 3 < p
      · simp [h1, h2]
      · simp [h1, h2]; omega
  rcases hcl with ⟨h, hq⟩ | ⟨h, hq⟩ | ⟨h, hq⟩ | ⟨h, hq⟩ | ⟨h, hq⟩
  all_goals
    obtain ⟨E, hE⟩ : ∃ E, E = evenR p := ⟨_, rfl⟩
    rw [← hE]
    have HQ : RowKit.Hid (∀ k : Nat, E k = (k : Int) * clampP p / 8) := fun k => by rw [hE]; rfl
    rw [hq] at HQ
    clear hq hE
    (try subst h)
    go_enter Try.func41, Try.ntmps41
    go_wp2_with fail
    go_loopw [8] (fun i wr => ∃ k : Nat, k ≤ 8 ∧ i = .int .i64 k ∧ Blk wr (w.heap.size + 1) 36 (C8 fun j => if j < k then E j else 0) ∧ Blk wr w.heap.size 36 (C8 fun _ => 0) ∧ Fr w.heap.size [] w wr) (fun i _ => 8 - (intOf i).toNat)
    case atStart =>
      refine ⟨0, by omega, rfl, ?_, (Blk.new _ _ _).alloc _, ((Fr.refl _ _ _).alloc (Nat.le_refl _) _).alloc (by simp) _⟩
      have h := Blk.new (w.alloc (.cells (C8 fun _ => 0) 36)) 36 (C8 fun _ => 0)
      rw [show (w.alloc (.cells (C8 fun _ => 0) 36)).heap.size = w.heap.size + 1 by simp] at h
      exact h
    case round =>
      obtain ⟨k, hk, rfl, hb, hb0, hfr⟩ := hrel
      have HF := Lib.hid hfr
      have HB0 := Lib.hid hb0
      clear hfr hb0
      by_cases hlt : k < 8
      · have hc := hb.cell k
        rw [C8_get _ hlt] at hc
        have hz := hb.frozen k
        have HB := Lib.hid hb
        clear hb
        go_wp2_with fail
        go_roundw
        case rel =>
          refine ⟨k + 1, by omega, by go_num, ?_, HB0.out.far (by simp) _, HF.out.setCell (.inl (by simp)) _⟩
          have h := HB.out.set_ k (.int .i64 (E k))
          rw [C8_set _ hlt] at h
          have e1 : (C8 fun j => if j = k then E k else if j < k then E j else 0) = C8 fun j => if j < k + 1 then E j else 0 := by
            apply C8_congr
            intro j _
            by_cases h1 : j = k
            · subst h1; simp
            · have : (j < k + 1) = (j < k) := by simp; omega
              simp [h1, this]
          rw [e1] at h
          have e2 := HQ.out k
          rw [e2] at h
          first | exact h | (simp only [Int.mul_one] at h; exact h)
        case measure => simp [intOf]; omega
      · obtain rfl : k = 8 := by omega
        have e1 : (C8 fun j => if j < 8 then E j else 0) = C8 E := C8_congr fun j hj => by simp [hj]
        rw [e1] at hb
        have h0 := hb.cell 0
        have h1 := hb.cell 1
        have h2 := hb.cell 2
        have h3 := hb.cell 3
        have h4 := hb.cell 4
        have h5 := hb.cell 5
        have h6 := hb.cell 6
        have h7 := hb.cell 7
        have b0 := HB0.out.cell 0
        have b1 := HB0.out.cell 1
        have b2 := HB0.out.cell 2
        have b3 := HB0.out.cell 3
        have b4 := HB0.out.cell 4
        have b5 := HB0.out.cell 5
        have b6 := HB0.out.cell 6
        have b7 := HB0.out.cell 7
        have z0 := HB0.out.frozen 0
        have z1 := HB0.out.frozen 1
        have z2 := HB0.out.frozen 2
        have z3 := HB0.out.frozen 3
        have z4 := HB0.out.frozen 4
        have z5 := HB0.out.frozen 5
        have z6 := HB0.out.frozen 6
        have z7 := HB0.out.frozen 7
        have hlt0 := HB0.out.lt
        go_wp2_with fail
        exact bodyPost_ret (results_cell_row rfl _ _ w.heap.size 36 (C8 E) (0, 0) _ rfl (blk_set8 HB0.out E) Try.underlying36 rfl (by kernel_rfl)) rfl ⟨rfl, fr_set8 HF.out (.inl (Nat.le_refl _)) E⟩

end Go.Proofs.Ytddngibfhklnfaa
