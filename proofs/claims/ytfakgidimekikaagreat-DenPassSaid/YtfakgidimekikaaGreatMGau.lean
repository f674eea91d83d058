/- Texts merged into one, for the number of files a claim may have: Gauss. -/
import Derived.Test.YtfakgidimekikaaGreatRows
import Derived.Test.YtfakgidimekikaaGreatMA
import Derived.Laws.StructEq
import Derived.Deep.RegionHeld3
namespace Go.Proofs.YtfakgidimekikaaGreat
open Go.RowKit Go.Fb
/-- A number, taken into the range. -/
def cen (n : Int) : Int := (n + 524288) % 1048576 - 524288
theorem cen_of {n q m : Int} (h : n = 1048576 * q + m) (hm : -524288 ≤ m ∧ m < 524288) : cen n = m := by unfold cen; omega
theorem cen_iff (n : Int) : cen n = n ↔ -524288 ≤ n ∧ n < 524288 := by unfold cen; omega
/-- May a value be? -/
def valB (re im : Int) : Bool := decide (-524288 ≤ re ∧ re < 524288 ∧ -524288 ≤ im ∧ im < 524288)
theorem valB_cen (re im : Int) : (re == cen re && im == cen im) = valB re im := by
  unfold valB
  rw [Bool.eq_iff_iff]
  simp only [Bool.and_eq_true, beq_iff_eq, decide_eq_true_eq]
  have h1 := cen_iff re
  have h2 := cen_iff im
  constructor
  · rintro ⟨a, b⟩
    have := h1.1 a.symm
    have := h2.1 b.symm
    omega
  · intro h
    exact ⟨(h1.2 (by omega)).symm, (h2.2 (by omega)).symm⟩
theorem valB_cen' (re im : Int) : (cen re == re && cen im == im) = valB re im := by
  rw [← valB_cen]
  rw [Bool.eq_iff_iff]
  simp only [Bool.and_eq_true, beq_iff_eq]
  exact ⟨fun h => ⟨h.1.symm, h.2.symm⟩, fun h => ⟨h.1.symm, h.2.symm⟩⟩
theorem tmod_parts (n : Int) : ∃ q m : Int, n = 1048576 * q + m ∧ n.tmod 1048576 = m ∧ -1048576 < m ∧ m < 1048576 := by
  refine ⟨n.tdiv 1048576, n.tmod 1048576, (Int.mul_tdiv_add_tmod n 1048576).symm, rfl, ?_⟩
  rcases Int.le_total 0 n with h | h
  · rw [Int.tmod_eq_emod_of_nonneg h]; omega
  · have := Int.neg_tmod n 1048576
    have h2 : (-n).tmod 1048576 = (-n) % 1048576 := Int.tmod_eq_emod_of_nonneg (by omega)
    omega
theorem into_any (n : Int) (w : World) : Calls Tryz.prog 144 #[.int .i64 n] w fun e w' => e = .returned (.int .i64 (cen n)) ∧ w = w' := by
  obtain ⟨q, m, hn, hm, h1, h2⟩ := tmod_parts n
  have HN := Lib.hid hn
  clear hn
  by_cases c1 : m < -524288
  · have hv : cen n = m + 1048576 := cen_of (q := q - 1) (by rw [HN.out]; omega) (by omega)
    rw [hv]
    clear hv
    go_enter Tryz.func144, Tryz.ntmps144
    go_wp2_with fail
    go_ret
    exact ⟨rfl, rfl⟩
  by_cases c2 : m < 0
  · have hv : cen n = m + 1048576 - 1048576 := by rw [cen_of HN.out (by omega)]; omega
    rw [hv]
    clear hv
    go_enter Tryz.func144, Tryz.ntmps144
    go_wp2_with fail
    go_ret
    exact ⟨rfl, rfl⟩
  by_cases c3 : m < 524288
  · have hv : cen n = m := cen_of HN.out (by omega)
    rw [hv]
    clear hv
    go_enter Tryz.func144, Tryz.ntmps144
    go_wp2_with fail
    go_ret
    exact ⟨rfl, rfl⟩
  · have hv : cen n = m - 1048576 := cen_of (q := q + 1) (by rw [HN.out]; omega) (by omega)
    rw [hv]
    clear hv
    go_enter Tryz.func144, Tryz.ntmps144
    go_wp2_with fail
    go_ret
    exact ⟨rfl, rfl⟩
theorem refinto_any (n : Int) (w : World) : Calls Tryz.prog 139 #[.int .i64 n] w fun e w' => e = .returned (.int .i64 (cen n)) ∧ w = w' := by
  obtain ⟨q, m, hn, hm, h1, h2⟩ := tmod_parts n
  have HN := Lib.hid hn
  clear hn
  by_cases c1 : m < -524288
  · have hv : cen n = m + 1048576 := cen_of (q := q - 1) (by rw [HN.out]; omega) (by omega)
    rw [hv]
    clear hv
    go_enter Tryz.func139, Tryz.ntmps139
    go_wp2_with fail
    all_goals
      go_ret
      exact ⟨rfl, rfl⟩
  by_cases c3 : m < 524288
  · have hv : cen n = m := cen_of HN.out (by omega)
    rw [hv]
    clear hv
    go_enter Tryz.func139, Tryz.ntmps139
    go_wp2_with fail
    go_ret
    exact ⟨rfl, rfl⟩
  · have hv : cen n = m - 1048576 := cen_of (q := q + 1) (by rw [HN.out]; omega) (by omega)
    rw [hv]
    clear hv
    go_enter Tryz.func139, Tryz.ntmps139
    go_wp2_with fail
    go_ret
    exact ⟨rfl, rfl⟩
set_option maxRecDepth 100000 in
theorem gof_any (re im : Int) (w : World) : Calls Tryz.prog 122 #[.int .i64 re, .int .i64 im] w fun e w' => e = .returned (.agg #[.int .i64 (cen re), .int .i64 (cen im)]) ∧ Fr w.heap.size [] w w' := by
  have h1 := into_any re
  have h2 := into_any im
  generalize cen re = a at *
  generalize cen im = b at *
  go_enter Tryz.func122, Tryz.ntmps122
  go_wp2_with fail
  refine (h1 _).mono ?_
  rintro e w' ⟨rfl, rfl⟩
  go_wp2_with fail
  refine (h2 _).mono ?_
  rintro e w' ⟨rfl, rfl⟩
  go_wp2_with fail
  exact bodyPost_ret (results_cell_row rfl _ _ w.heap.size 24 #[.int .i64 a, .int .i64 b] (0, 0) _ rfl (Blk.new w 24 #[.int .i64 a, .int .i64 b]) Tryz.underlying24 rfl (by kernel_rfl)) rfl ⟨rfl, (Fr.refl _ _ _).alloc (Nat.le_refl _) _⟩
set_option maxRecDepth 100000 in
theorem refof_any (re im : Int) (w : World) : Calls Tryz.prog 116 #[.int .i64 re, .int .i64 im] w fun e w' => e = .returned (.agg #[.int .i64 (cen re), .int .i64 (cen im)]) ∧ Fr w.heap.size [] w w' := by
  have h1 := refinto_any re
  have h2 := refinto_any im
  generalize cen re = a at *
  generalize cen im = b at *
  go_enter Tryz.func116, Tryz.ntmps116
  go_wp2_with fail
  refine (h1 _).mono ?_
  rintro e w' ⟨rfl, rfl⟩
  go_wp2_with fail
  refine (h2 _).mono ?_
  rintro e w' ⟨rfl, rfl⟩
  go_wp2_with fail
  exact bodyPost_ret (results_cell_row rfl _ _ w.heap.size 24 #[.int .i64 a, .int .i64 b] (0, 0) _ rfl (Blk.new w 24 #[.int .i64 a, .int .i64 b]) Tryz.underlying24 rfl (by kernel_rfl)) rfl ⟨rfl, (Fr.refl _ _ _).alloc (Nat.le_refl _) _⟩
set_option maxRecDepth 100000 in
theorem val_cmp (a b c d : Int) (w : World) : (binOp .eql 24 (.agg #[.int .i64 a, .int .i64 b]) (.agg #[.int .i64 c, .int .i64 d])).run Tryz.prog w = .ok (.bool (a == c && b == d)) w := by
  have h : (Op.equalIn 10000 24 (.agg #[.int .i64 a, .int .i64 b]) (.agg #[.int .i64 c, .int .i64 d])).run Tryz.prog w = .ok (a == c && b == d) w := by
    rw [run_equalIn_struct w 9999 24 _ _ (by kernel_rfl) (by kernel_rfl)]
    simp [Program.fieldsOf, Tryz.underlying24]
    by_cases h1 : a = c
    · by_cases h2 : b = d <;> simp [Op.eqFields, part, isAgg, run_underlying Tryz.underlying3, run_equalIn_int w 9998 3 .i64 .i64 _ _ Tryz.underlying3, h1, h2]
    · simp [Op.eqFields, part, isAgg, run_underlying Tryz.underlying3, run_equalIn_int w 9998 3 .i64 .i64 _ _ Tryz.underlying3, h1]
  simp [binOp, Op.equal, Op.maxDepth, h]
/-- May a record be? -/
def recB (k re im : Int) : Bool := decide (0 ≤ k ∧ k < 64) && valB re im
set_option maxRecDepth 100000 in
theorem gright_any (re im : Int) (w : World) : Calls Tryz.prog 81 #[.agg #[.int .i64 re, .int .i64 im]] w fun e w' => e = .returned (.bool (valB re im)) ∧ Fr w.heap.size [] w w' := by
  have hcmp := fun w => val_cmp re im (cen re) (cen im) w
  rw [valB_cen] at hcmp
  have HO := Lib.hid (gof_any re im)
  generalize cen re = a at *
  generalize cen im = b at *
  generalize valB re im = v at *
  go_enter Tryz.func81, Tryz.ntmps81
  go_wp2_with fail
  have hb := Blk.new w 24 #[.int .i64 re, .int .i64 im]
  have hf := (Fr.refl w.heap.size [] w).alloc (Nat.le_refl _) (.cells #[.int .i64 re, .int .i64 im] 24)
  generalize w.alloc _ = w1 at *
  have INV : RowKit.Hid (Blk w1 w.heap.size 24 #[.int .i64 re, .int .i64 im] ∧ Fr w.heap.size [] w w1) := ⟨hb, hf⟩
  have INV : RowKit.Hid (Blk w1.drew w.heap.size 24 #[.int .i64 re, .int .i64 im] ∧ Fr w.heap.size [] w w1.drew) := ⟨INV.out.1.drew, INV.out.2.drew⟩
  clear hb hf
  go_region_held3 (fun wx => wx.cell? ⟨w.heap.size, 0, none⟩ = some (.int .i64 re) ∧ wx.cell? ⟨w.heap.size, 1, none⟩ = some (.int .i64 im)) (exact ⟨INV.out.1.cell 0, INV.out.1.cell 1⟩)
    ((go_at_call 122; refine (HO.out _).mono ?_; rintro e w' ⟨rfl, hf⟩; have INV : RowKit.Hid (Blk w' w.heap.size 24 #[.int .i64 re, .int .i64 im] ∧ Fr w.heap.size [] w w') := ⟨INV.out.1.fr hf INV.out.1.lt (by simp), INV.out.2.trans (hf.mono INV.out.2.size (by simp))⟩; clear hf))
  all_goals
    go_wp2_with fail
    go_ret
    exact ⟨rfl, INV.out.2⟩
set_option maxRecDepth 100000 in
theorem rval_any (re im : Int) (w : World) : Calls Tryz.prog 76 #[.agg #[.int .i64 re, .int .i64 im]] w fun e w' => e = .returned (.bool (valB re im)) ∧ Fr w.heap.size [] w w' := by
  have hcmp := fun w => val_cmp (cen re) (cen im) re im w
  rw [valB_cen'] at hcmp
  have HO := Lib.hid (refof_any re im)
  generalize cen re = a at *
  generalize cen im = b at *
  generalize valB re im = v at *
  go_enter Tryz.func76, Tryz.ntmps76
  go_wp2_with fail
  have hb := Blk.new w 24 #[.int .i64 re, .int .i64 im]
  have hf := (Fr.refl w.heap.size [] w).alloc (Nat.le_refl _) (.cells #[.int .i64 re, .int .i64 im] 24)
  generalize w.alloc _ = w1 at *
  have INV : RowKit.Hid (Blk w1 w.heap.size 24 #[.int .i64 re, .int .i64 im] ∧ Fr w.heap.size [] w w1) := ⟨hb, hf⟩
  have INV : RowKit.Hid (Blk w1.drew w.heap.size 24 #[.int .i64 re, .int .i64 im] ∧ Fr w.heap.size [] w w1.drew) := ⟨INV.out.1.drew, INV.out.2.drew⟩
  clear hb hf
  go_region_held3 (fun wx => wx.cell? ⟨w.heap.size, 0, none⟩ = some (.int .i64 re) ∧ wx.cell? ⟨w.heap.size, 1, none⟩ = some (.int .i64 im)) (exact ⟨INV.out.1.cell 0, INV.out.1.cell 1⟩)
    ((go_at_call 116; refine (HO.out _).mono ?_; rintro e w' ⟨rfl, hf⟩; have INV : RowKit.Hid (Blk w' w.heap.size 24 #[.int .i64 re, .int .i64 im] ∧ Fr w.heap.size [] w w') := ⟨INV.out.1.fr hf INV.out.1.lt (by simp), INV.out.2.trans (hf.mono INV.out.2.size (by simp))⟩; clear hf))
  all_goals
    go_wp2_with fail
    go_ret
    exact ⟨rfl, INV.out.2⟩
theorem cthere_any (k : Int) (w : World) : Calls Tryz.prog 80 #[.int .i64 0, .int .i64 k] w fun e w' => e = .returned (.bool (decide (0 ≤ k ∧ k < 64))) ∧ w = w' := by
  by_cases h1 : 0 ≤ k
  · by_cases h2 : k < 64
    · have hv : decide (0 ≤ k ∧ k < 64) = true := by simp; omega
      rw [hv]
      clear hv
      go_enter Tryz.func80, Tryz.ntmps80
      go_wp2_with fail
      go_ret
      exact ⟨rfl, rfl⟩
    · have hv : decide (0 ≤ k ∧ k < 64) = false := by simp; omega
      rw [hv]
      clear hv
      go_enter Tryz.func80, Tryz.ntmps80
      go_wp2_with fail
      go_ret
      exact ⟨rfl, rfl⟩
  · have hv : decide (0 ≤ k ∧ k < 64) = false := by simp; omega
    rw [hv]
    clear hv
    go_enter Tryz.func80, Tryz.ntmps80
    go_wp2_with fail
    go_ret
    exact ⟨rfl, rfl⟩
set_option maxRecDepth 100000 in
theorem cellright_any (k re im : Int) (w : World) : Calls Tryz.prog 103 #[.agg #[.int .i64 k, .int .i64 re, .int .i64 im]] w fun e w' => e = .returned (.bool (recB k re im)) ∧ Fr w.heap.size [] w w' := by
  have HO := Lib.hid (gright_any re im)
  have HT := Lib.hid (cthere_any k)
  rcases Bool.eq_false_or_eq_true (decide (0 ≤ k ∧ k < 64)) with hk | hk
  · have hv : recB k re im = valB re im := by unfold recB; rw [hk]; rfl
    rw [hv]
    rw [hk] at HT
    clear hv hk
    go_enter Tryz.func103, Tryz.ntmps103
    go_wp2_with fail
    refine (HT.out _).mono ?_
    rintro e w1 ⟨rfl, rfl⟩
    go_wp2_with fail
    refine (HO.out _).mono ?_
    rintro e w1 ⟨rfl, hf⟩
    have HF := Lib.hid hf
    clear hf
    go_wp2_with fail
    go_ret
    exact ⟨rfl, ((Fr.refl _ _ _).alloc (Nat.le_refl _) _).trans (HF.out.mono (by simp) (by simp))⟩
  · have hv : recB k re im = false := by unfold recB; rw [hk]; rfl
    rw [hv]
    rw [hk] at HT
    clear hv hk
    go_enter Tryz.func103, Tryz.ntmps103
    go_wp2_with fail
    refine (HT.out _).mono ?_
    rintro e w1 ⟨rfl, rfl⟩
    go_wp2_with fail
    go_ret
    exact ⟨rfl, (Fr.refl _ _ _).alloc (Nat.le_refl _) _⟩
set_option maxRecDepth 100000 in
theorem rrec_any (k re im : Int) (w : World) : Calls Tryz.prog 42 #[.agg #[.int .i64 k, .int .i64 re, .int .i64 im]] w fun e w' => e = .returned (.bool (recB k re im)) ∧ Fr w.heap.size [] w w' := by
  have HO := Lib.hid (rval_any re im)
  by_cases h1 : 0 ≤ k
  · by_cases h2 : k < 64
    · have hv : recB k re im = valB re im := by unfold recB; rw [show decide (0 ≤ k ∧ k < 64) = true by simp; omega]; rfl
      rw [hv]
      clear hv
      go_enter Tryz.func42, Tryz.ntmps42
      go_wp2_with fail
      refine (HO.out _).mono ?_
      rintro e w1 ⟨rfl, hf⟩
      have HF := Lib.hid hf
      clear hf
      go_wp2_with fail
      go_ret
      exact ⟨rfl, ((Fr.refl _ _ _).alloc (Nat.le_refl _) _).trans (HF.out.mono (by simp) (by simp))⟩
    · have hv : recB k re im = false := by unfold recB; rw [show decide (0 ≤ k ∧ k < 64) = false by simp; omega]; rfl
      rw [hv]
      clear hv
      go_enter Tryz.func42, Tryz.ntmps42
      go_wp2_with fail
      go_ret
      exact ⟨rfl, (Fr.refl _ _ _).alloc (Nat.le_refl _) _⟩
  · have hv : recB k re im = false := by unfold recB; rw [show decide (0 ≤ k ∧ k < 64) = false by simp; omega]; rfl
    rw [hv]
    clear hv
    go_enter Tryz.func42, Tryz.ntmps42
    go_wp2_with fail
    go_ret
    exact ⟨rfl, (Fr.refl _ _ _).alloc (Nat.le_refl _) _⟩
end Go.Proofs.YtfakgidimekikaaGreat
