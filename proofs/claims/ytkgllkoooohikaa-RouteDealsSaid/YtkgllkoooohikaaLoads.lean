/- The contract of route.Loads. -/
import Derived.Test.YtkgllkoooohikaaDeal
import Derived.Test.YtkgllkoooohikaaArr3
import Derived.StillTailTactics
namespace Go.Proofs.Ytkgllkoooohikaa
open Go.RowKit Go.Fb
def dealW (s : Nat → Int) (g : Nat) : Int := wgt (s g)
theorem dealW_range (s : Nat → Int) (g : Nat) : 0 ≤ dealW s g ∧ dealW s g ≤ 1048576 := wgt_range (s g)
theorem weight_same (n : Int) (w : World) : Calls Try.prog 55 #[.int .i64 n] w fun e w' => e = .returned (.int .i64 (wgt n)) ∧ w' = w :=
  (weight_any n w).mono fun _ _ ⟨h, k⟩ => ⟨h, k.symm⟩
theorem C3_zero : (C3 fun _ => 0) = #[.int .i64 0, .int .i64 0, .int .i64 0] := rfl
theorem loadOf_step (W r : Nat → Int) (k : Nat) (t : Nat) (h : r k = t) : C3 (fun j => if j = t then loadOf W r k t + W k else loadOf W r k j) = C3 (loadOf W r (k + 1)) := by
  apply C3_congr
  intro j _
  show _ = loadOf W r k j + _
  by_cases e : j = t
  · subst e; rw [if_pos rfl, if_pos h]
  · rw [if_neg e, if_neg (by omega)]; omega
theorem loadOf_skip (W r : Nat → Int) (k : Nat) (h : r k < 0 ∨ 3 ≤ r k) : C3 (loadOf W r k) = C3 (loadOf W r (k + 1)) := by
  apply C3_congr
  intro j hj
  show _ = loadOf W r k j + _
  rw [if_neg (by omega)]; omega
set_option maxRecDepth 100000 in
set_option maxHeartbeats 1000000 in
theorem loads_any (r s : Nat → Int) (w : World) : Calls Try.prog 31 #[A8 r, A8 s] w fun e w' => e = .returned (A3 (loadOf (dealW s) r 8)) ∧ Fr w.heap.size [] w w' := by
  have HL := Lib.hid (fun k t => loadOf_range (dealW s) r (dealW_range s) k t)
  go_enter Try.func31, Try.ntmps31
  go_wp2_with fail
  have h3 : Blk ((((w.alloc (.cells (C8 r) 64)).alloc (.cells (C8 s) 64)).alloc (.cells (C3 fun _ => 0) 66)).alloc (.cells (C3 fun _ => 0) 66)) (w.heap.size + 3) 66 (C3 fun _ => 0) := by
    have h := Blk.new (((w.alloc (.cells (C8 r) 64)).alloc (.cells (C8 s) 64)).alloc (.cells (C3 fun _ => 0) 66)) 66 (C3 fun _ => 0)
    rwa [show (((w.alloc (.cells (C8 r) 64)).alloc (.cells (C8 s) 64)).alloc (.cells (C3 fun _ => 0) 66)).heap.size = w.heap.size + 3 by simp] at h
  have h2 : Blk ((((w.alloc (.cells (C8 r) 64)).alloc (.cells (C8 s) 64)).alloc (.cells (C3 fun _ => 0) 66)).alloc (.cells (C3 fun _ => 0) 66)) (w.heap.size + 2) 66 (C3 fun _ => 0) := by
    have h := (Blk.new ((w.alloc (.cells (C8 r) 64)).alloc (.cells (C8 s) 64)) 66 (C3 fun _ => 0)).alloc (.cells (C3 fun _ => 0) 66)
    rwa [show ((w.alloc (.cells (C8 r) 64)).alloc (.cells (C8 s) 64)).heap.size = w.heap.size + 2 by simp] at h
  have h1 : Blk ((((w.alloc (.cells (C8 r) 64)).alloc (.cells (C8 s) 64)).alloc (.cells (C3 fun _ => 0) 66)).alloc (.cells (C3 fun _ => 0) 66)) (w.heap.size + 1) 64 (C8 s) := by
    have h := ((Blk.new (w.alloc (.cells (C8 r) 64)) 64 (C8 s)).alloc (.cells (C3 fun _ => 0) 66)).alloc (.cells (C3 fun _ => 0) 66)
    rwa [show (w.alloc (.cells (C8 r) 64)).heap.size = w.heap.size + 1 by simp] at h
  have hf := ((((Fr.refl w.heap.size [] w).alloc (Nat.le_refl _) (.cells (C8 r) 64)).alloc (by simp) (.cells (C8 s) 64)).alloc (by simp; omega) (.cells (C3 fun _ => 0) 66)).alloc (by simp; omega) (.cells (C3 fun _ => 0) 66)
  have H1 := Lib.hid h1
  have H2 := Lib.hid h2
  have H3 := Lib.hid h3
  have HF := Lib.hid hf
  clear h1 h2 h3 hf
  go_loopw [9] (fun i wr => ∃ k : Nat, k ≤ 8 ∧ i = .int .i64 k ∧ Blk wr (w.heap.size + 3) 66 (C3 (loadOf (dealW s) r k)) ∧ Blk wr (w.heap.size + 2) 66 (C3 fun _ => 0) ∧ Blk wr (w.heap.size + 1) 64 (C8 s) ∧ Fr w.heap.size [] w wr) (fun i _ => 8 - (intOf i).toNat)
  case atStart => exact ⟨0, by omega, rfl, H3.out, H2.out, H1.out, HF.out⟩
  case round =>
    obtain ⟨k, hk, rfl, hb, hb2, hb1, hfr⟩ := hrel
    have HB2 := Lib.hid hb2
    have HB1 := Lib.hid hb1
    have HFR := Lib.hid hfr
    have HB := Lib.hid hb
    clear H1 H2 H3 HF hb2 hb1 hfr hb
    by_cases hlt : k < 8
    · have hx := index8 r hlt
      by_cases h1 : r k < 0
      · go_wp2_with fail
        go_roundw
        case rel => exact ⟨k + 1, by omega, by go_num, by rw [← loadOf_skip _ _ _ (.inl h1)]; exact HB.out, HB2.out, HB1.out, HFR.out⟩
        case measure => simp [intOf]; omega
      by_cases h2 : 3 ≤ r k
      · go_wp2_with fail
        go_roundw
        case rel => exact ⟨k + 1, by omega, by go_num, by rw [← loadOf_skip _ _ _ (.inr h2)]; exact HB.out, HB2.out, HB1.out, HFR.out⟩
        case measure => simp [intOf]; omega
      · obtain ⟨t, ht⟩ := Int.eq_ofNat_of_zero_le (show 0 ≤ r k by omega)
        have ht' : r k = (t : Int) := ht
        have ht3 : t < 3 := by omega
        have HT := Lib.hid ht'
        rw [ht'] at hx h1 h2
        clear ht ht'
        have c0 := HB.out.cell t
        rw [C3_get _ ht3] at c0
        have c1 := HB1.out.cell k
        rw [C8_get _ hlt] at c1
        have z0 := HB.out.frozen t
        have lr := HL.out k t
        have wr' := dealW_range s k
        obtain ⟨a, ha⟩ : ∃ a, a = loadOf (dealW s) r k t := ⟨_, rfl⟩
        obtain ⟨b, hbv⟩ : ∃ b, b = dealW s k := ⟨_, rfl⟩
        have hW := fun w => weight_same (s k) w
        rw [show wgt (s k) = b from hbv.symm] at hW
        have HW := Lib.hid hW
        rw [← ha] at c0 lr
        rw [← hbv] at wr'
        have hw1 : IntKind.i64.wrap (a + b) = a + b := by rw [IntKind.wrap_i64]; omega
        have hti : (t : Int) < 3 := by omega
        have hki : (k : Int) < 8 := by omega
        have HA := Lib.hid ha
        have HBV := Lib.hid hbv
        clear hW ha hbv lr wr'
        go_upto_region 6 with fail
        refine wp_region_still_tail 9 (by kernel_rfl) (by kernel_rfl) ?_
        simp only [List.take_succ_cons, List.take_zero, List.drop_succ_cons, List.drop_zero]
        repeat (first | still_call (HW.out _) | still_step)
        refine wpStill_nil ?_
        change wpList _ _ _ _ _ wr.drew
        go_wp2_with fail
        go_roundw
        case rel =>
          refine ⟨k + 1, by omega, by go_num, ?_, HB2.out.drew.far (p := ⟨w.heap.size + 3, t, none⟩) (by simp) _, HB1.out.drew.far (p := ⟨w.heap.size + 3, t, none⟩) (by simp) _, HFR.out.drew.setCell (p := ⟨w.heap.size + 3, t, none⟩) (.inl (by simp)) _⟩
          have h := blk3_set1 HB.out.drew ht3 (a + b)
          rw [HA.out, HBV.out, loadOf_step _ _ _ _ HT.out] at h
          rw [HA.out, HBV.out]
          exact h
        case measure => simp [intOf]; omega
    · obtain rfl : k = 8 := by omega
      obtain ⟨E, hE⟩ : ∃ E, E = loadOf (dealW s) r 8 := ⟨_, rfl⟩
      rw [← hE] at HB
      have HE := Lib.hid hE
      have hb := HB.out
      have h0 := hb.cell 0
      have h1 := hb.cell 1
      have h2 := hb.cell 2
      have b0 := HB2.out.cell 0
      have b1 := HB2.out.cell 1
      have b2 := HB2.out.cell 2
      have z0 := HB2.out.frozen 0
      have z1 := HB2.out.frozen 1
      have z2 := HB2.out.frozen 2
      have hlt0 := HB2.out.lt
      clear hE hb
      go_wp2_with fail
      exact bodyPost_ret (results_cell_row rfl _ _ (w.heap.size + 2) 66 (C3 E) (0, 0) _ rfl (blk_set3 HB2.out E) Try.underlying66 rfl (by kernel_rfl)) rfl ⟨by rw [HE.out], fr_set3 HFR.out (.inl (by omega)) E⟩
end Go.Proofs.Ytkgllkoooohikaa
