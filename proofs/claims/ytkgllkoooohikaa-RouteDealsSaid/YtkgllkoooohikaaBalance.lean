/- The contract of route.Balance. -/
import Derived.Test.YtkgllkoooohikaaLoads
namespace Go.Proofs.Ytkgllkoooohikaa
open Go.RowKit Go.Fb
/-- What a balanced route is: the deal of a list that the insertion leaves. -/
def BalOut (p : Nat) (s : Nat → Int) (w : World) (e : Ending) (w' : World) : Prop :=
  ∃ xs : List Int, e = .returned (A8 (dealS p (dealW s) (deckP xs) 8).r) ∧ (∃ j, St (cmpW s) [0, 1, 2, 3, 4, 5, 6, 7] 8 j xs) ∧ Fr w.heap.size [] w w'
theorem deck_of {s : Nat → Int} {xs : List Int} (h : ∃ j, St (cmpW s) [0, 1, 2, 3, 4, 5, 6, 7] 8 j xs) : Deck (fun x => dealW s x.toNat) xs := by
  obtain ⟨j, h⟩ := h
  exact h.deck (fun a b => rfl)
theorem onto_of {s : Nat → Int} {xs : List Int} (h : ∃ j, St (cmpW s) [0, 1, 2, 3, 4, 5, 6, 7] 8 j xs) : ∀ g : Nat, g < 8 → ∃ k, k < 8 ∧ xs.getD k 0 = (g : Int) := by
  obtain ⟨j, h⟩ := h
  exact fun g hg => h.onto g hg
set_option maxRecDepth 100000 in
set_option maxHeartbeats 1000000 in
theorem balance_any (par : Int) (p : Nat) (s : Nat → Int) (w : World) (hp : (p : Int) = clampP par) : Calls Try.prog 30 #[.int .i64 par, A8 s] w (BalOut p s w) := by
  have hcl : (par < 1 ∧ p = 1) ∨ (3 < par ∧ p = 3) ∨ (1 ≤ p ∧ p ≤ 3 ∧ par = (p : Int)) := by
    unfold clampP at hp
    split at hp <;> (try split at hp) <;> omega
  have HCL := Lib.hid hcl
  clear hp hcl
  go_enter Try.func30, Try.ntmps30
  go_wp2_with fail
  have h3 : Blk ((((w.alloc (.cells (C8 s) 64)).alloc (.cells (C8 fun _ => 0) 64)).alloc (.cells (C8 fun _ => 0) 64)).alloc (.cells (C3 fun _ => 0) 66)) (w.heap.size + 3) 66 (C3 fun _ => 0) := by
    have h := Blk.new (((w.alloc (.cells (C8 s) 64)).alloc (.cells (C8 fun _ => 0) 64)).alloc (.cells (C8 fun _ => 0) 64)) 66 (C3 fun _ => 0)
    rwa [show (((w.alloc (.cells (C8 s) 64)).alloc (.cells (C8 fun _ => 0) 64)).alloc (.cells (C8 fun _ => 0) 64)).heap.size = w.heap.size + 3 by simp] at h
  have h2 : Blk ((((w.alloc (.cells (C8 s) 64)).alloc (.cells (C8 fun _ => 0) 64)).alloc (.cells (C8 fun _ => 0) 64)).alloc (.cells (C3 fun _ => 0) 66)) (w.heap.size + 2) 64 (C8 fun _ => 0) := by
    have h := (Blk.new ((w.alloc (.cells (C8 s) 64)).alloc (.cells (C8 fun _ => 0) 64)) 64 (C8 fun _ => 0)).alloc (.cells (C3 fun _ => 0) 66)
    rwa [show ((w.alloc (.cells (C8 s) 64)).alloc (.cells (C8 fun _ => 0) 64)).heap.size = w.heap.size + 2 by simp] at h
  have h1 : Blk ((((w.alloc (.cells (C8 s) 64)).alloc (.cells (C8 fun _ => 0) 64)).alloc (.cells (C8 fun _ => 0) 64)).alloc (.cells (C3 fun _ => 0) 66)) (w.heap.size + 1) 64 (C8 fun _ => 0) := by
    have h := ((Blk.new (w.alloc (.cells (C8 s) 64)) 64 (C8 fun _ => 0)).alloc (.cells (C8 fun _ => 0) 64)).alloc (.cells (C3 fun _ => 0) 66)
    rwa [show (w.alloc (.cells (C8 s) 64)).heap.size = w.heap.size + 1 by simp] at h
  have h0 : Blk ((((w.alloc (.cells (C8 s) 64)).alloc (.cells (C8 fun _ => 0) 64)).alloc (.cells (C8 fun _ => 0) 64)).alloc (.cells (C3 fun _ => 0) 66)) w.heap.size 64 (C8 s) := (((Blk.new w 64 (C8 s)).alloc _).alloc _).alloc _
  have hf := ((((Fr.refl w.heap.size [] w).alloc (Nat.le_refl _) (.cells (C8 s) 64)).alloc (by simp) (.cells (C8 fun _ => 0) 64)).alloc (by simp; omega) (.cells (C8 fun _ => 0) 64)).alloc (by simp; omega) (.cells (C3 fun _ => 0) 66)
  have hsz : ((((w.alloc (.cells (C8 s) 64)).alloc (.cells (C8 fun _ => 0) 64)).alloc (.cells (C8 fun _ => 0) 64)).alloc (.cells (C3 fun _ => 0) 66)).heap.size = w.heap.size + 4 := by simp
  generalize ((((w.alloc (.cells (C8 s) 64)).alloc (.cells (C8 fun _ => 0) 64)).alloc (.cells (C8 fun _ => 0) 64)).alloc (.cells (C3 fun _ => 0) 66)) = w4 at *
  refine (byWeight_any s w4).mono ?_
  rintro e w5 ⟨A, c, xs, rfl, hst, ho, f5⟩
  obtain ⟨g, cap, hv, hbg, hg2⟩ := ho.form (by omega)
  have hA : A = some ⟨g, 0, none⟩ := by injection hv
  subst hA
  have D := Lib.hid (deck_of hst)
  have ON := Lib.hid (onto_of hst)
  have HST := Lib.hid hst
  have HC := Lib.hid (fun k (hk : k < 8) => (ownsRow_cell ho (k := k) (u := .int .i64 (xs.getD k 0)) (by rw [List.getElem?_map, List.getElem?_eq_getElem (by rw [D.out.len]; exact hk), List.getD_eq_getElem?_getD, List.getElem?_eq_getElem (by rw [D.out.len]; exact hk)]; rfl)).1)
  have hfr0 : Fr w.heap.size [] w w5 := hf.trans (f5.mono hf.size (by simp))
  have B3 := h3.fr f5 h3.lt (by simp)
  have B2 := h2.fr f5 h2.lt (by simp)
  have B1 := h1.fr f5 h1.lt (by simp)
  have B0 := h0.fr f5 h0.lt (by simp)
  have hgo : w.heap.size + 4 ≤ g := by omega
  have HB3 := Lib.hid B3
  have HB2 := Lib.hid B2
  have HB1 := Lib.hid B1
  have HB0 := Lib.hid B0
  have HFR := Lib.hid hfr0
  clear hv ho hst h3 h2 h1 h0 hf B3 B2 B1 B0 hfr0 f5 hsz hbg
  clear w4
  obtain ⟨S, hS⟩ : ∃ S, S = dealS p (dealW s) (deckP xs) := ⟨_, rfl⟩
  have HS := Lib.hid hS
  have hp3 : 1 ≤ p ∧ p ≤ 3 := by have := HCL.out; omega
  have HI := Lib.hid (fun k (hk : k ≤ 8) => (by rw [hS]; exact dealS_inv p (by omega) (dealW s) (dealW_range s) (deckP xs) (deck_inj D.out) (deck_lt D.out) k hk : DealInv p (dealW s) (deckP xs) k (S k)))
  have HNX := Lib.hid (fun k => (by rw [hS]; rfl : S (k + 1) = dealStep p (dealW s) (deckP xs k) (S k)))
  have HS0 : RowKit.Hid (S 0 = ⟨fun _ => 0, fun _ => false, fun _ => 0⟩) := by rw [hS]; exact (rfl : dealS p (dealW s) (deckP xs) 0 = _)
  clear hS
  go_wp2_with fail
  go_loopw [14] (fun i wr => ∃ k : Nat, k ≤ 8 ∧ i = .int .i64 k ∧ Blk wr (w.heap.size + 3) 66 (C3 (S k).h) ∧ Blk wr (w.heap.size + 2) 64 (C8 (S k).r) ∧ Fr w5.heap.size [w.heap.size + 2, w.heap.size + 3] w5 wr) (fun i _ => 8 - (intOf i).toNat)
  case atStart => exact ⟨0, by omega, rfl, by rw [HS0.out]; exact HB3.out, by rw [HS0.out]; exact HB2.out, Fr.refl _ _ _⟩
  case round =>
    obtain ⟨k, hk, rfl, hb3, hb2, hfr⟩ := hrel
    have R3 := Lib.hid hb3
    have R2 := Lib.hid hb2
    have RF := Lib.hid hfr
    have hsz : w5.heap.size ≤ wr.heap.size := hfr.size
    have hg5 : g < w5.heap.size := hg2
    clear hb3 hb2 hfr
    by_cases hlt : k < 8
    · have hrg := D.out.range k hlt
      obtain ⟨q, hq⟩ : ∃ q, q = deckP xs k := ⟨_, rfl⟩
      have hq1 : xs.getD k 0 = (q : Int) := by rw [hq]; unfold deckP; omega
      have hq8 : q < 8 := by omega
      have hc := HC.out k hlt
      rw [hq1] at hc
      have hcg := (RF.out.cell (p := ⟨g, k, none⟩) hg5 (by simp; omega)).trans hc
      have I := HI.out k hk
      have HQ := Lib.hid hq
      have HI' := Lib.hid I
      have hki : (k : Int) < 8 := by omega
      clear hc hq1 hq I hrg
      go_upto_region 7 with fail
      go_cut [20, 21] (fun b t wx => b = .int .i64 p ∧ t = .int .i64 0 ∧ wx = wr)
      case first =>
        rcases HCL.out with ⟨hcp, rfl⟩ | ⟨hcp, rfl⟩ | ⟨hcp1, hcp2, rfl⟩
        all_goals
          go_wp2_with fail
          go_meet
          exact ⟨rfl, rfl, rfl⟩
      case rest =>
        obtain ⟨rfl, rfl, rfl⟩ := hcut
        have HH := Lib.hid (fun t (ht : t < 3) => (R3.out.cell t).trans (C3_get _ ht))
        obtain ⟨wo, hwo⟩ : ∃ wo : World, wo = wc := ⟨_, rfl⟩
        subst hwo
        obtain ⟨hp1, hp3⟩ := hp3
        go_wp2_with fail
        go_loopw [9, 21] (fun l t wr => ∃ (T m : Nat), T ≤ p ∧ t = .int .i64 T ∧ l = .int .i64 (leastP (S k).h T : Nat) ∧ wr = wo.drewN m) (fun _ t _ => p - (intOf t).toNat)
        case atStart => exact ⟨0, 0, by omega, rfl, rfl, rfl⟩
        case round =>
          obtain ⟨T, m, hT, rfl, rfl, rfl⟩ := hrel
          by_cases hTp : T < p
          · have hlp : leastP (S k).h T < 3 := by
              rcases Nat.eq_zero_or_pos T with h0 | h0
              · subst h0; unfold leastP; omega
              · have := leastP_lt (S k).h T h0; omega
            have hLS : leastP (S k).h (T + 1) = if (S k).h T < (S k).h (leastP (S k).h T) then T else leastP (S k).h T := rfl
            have c1 := HH.out T (by omega)
            have c2 := HH.out _ hlp
            generalize leastP (S k).h T = L at *
            have HLS := Lib.hid hLS
            have hTi : (T : Int) < 3 := by omega
            have hLi : (L : Int) < 3 := by omega
            clear hLS
            by_cases hcmp : (S k).h T < (S k).h L
            · have hd : decide ((S k).h T < (S k).h L) = true := decide_eq_true hcmp
              go_wp2_with fail
              go_quiet (fail)
              go_wp2_with fail
              go_roundw
              case rel => exact ⟨T + 1, m + nq, by omega, by go_num, by rw [HLS.out, if_pos hcmp], by first | rfl | rw [World.drewN_drewN]⟩
              case measure => simp [intOf]; omega
            · have hd : decide ((S k).h T < (S k).h L) = false := decide_eq_false hcmp
              go_wp2_with fail
              go_quiet (fail)
              go_wp2_with fail
              go_roundw
              case rel => exact ⟨T + 1, m + nq, by omega, by go_num, by rw [HLS.out, if_neg (by omega)], by first | rfl | rw [World.drewN_drewN]⟩
              case measure => simp [intOf]; omega
          · obtain rfl : p = T := by omega
            have hlp := leastP_lt (S k).h p (by omega)
            have hN := HNX.out k
            rw [← HQ.out] at hN
            unfold dealStep at hN
            have R3' := Lib.hid (R3.out.drewN m)
            have R2' := Lib.hid (R2.out.drewN m)
            have RF' := Lib.hid (RF.out.drewN m)
            have hsz' : w5.heap.size ≤ (wo.drewN m).heap.size := RF'.out.size
            have cl := (R3'.out.cell (leastP (S k).h p)).trans (C3_get _ (by omega))
            have c2 := (R2'.out.cell q).trans (C8_get _ hq8)
            have z2 := R2'.out.frozen q
            have z3 := R3'.out.frozen (leastP (S k).h p)
            have hb0 := HB0.out.fr RF'.out HB0.out.lt (by simp)
            have cs := (hb0.cell q).trans (C8_get s hq8)
            have wl := (HI'.out.h4 (leastP (S k).h p))
            have wq := dealW_range s q
            generalize leastP (S k).h p = L at *
            generalize wo.drewN m = wx at *
            obtain ⟨a, ha⟩ : ∃ a, a = (S k).h L := ⟨_, rfl⟩
            obtain ⟨b, hbv⟩ : ∃ b, b = dealW s q := ⟨_, rfl⟩
            have hW := fun w => weight_same (s q) w
            rw [show wgt (s q) = b from hbv.symm] at hW
            have HW := Lib.hid hW
            rw [← ha, ← hbv] at hN
            rw [← ha] at cl wl
            rw [← hbv] at wq
            have hw1 : IntKind.i64.wrap (a + b) = a + b := by rw [IntKind.wrap_i64]; omega
            have hLi : (L : Int) < 3 := by omega
            have hqi : (q : Int) < 8 := by omega
            have HN := Lib.hid hN
            have hfar0 : w.heap.size ≠ w.heap.size + 2 := by omega
            clear hW ha hbv hN wl wq hb0
            go_upto_region 14 with fail
            obtain ⟨wy, hwy⟩ : ∃ wy, wy = wx.setCell ⟨w.heap.size + 2, q, none⟩ (.int .i64 (L : Nat)) := ⟨_, rfl⟩
            rw [← hwy]
            have BY2 := Lib.hid (by rw [hwy]; exact blk_set1 R2'.out hq8 _ : Blk wy (w.heap.size + 2) 64 (C8 fun j => if j = q then ((L : Nat) : Int) else (S k).r j))
            have BY3 := Lib.hid (by rw [hwy]; exact R3'.out.far (p := ⟨w.heap.size + 2, q, none⟩) (by simp) _ : Blk wy (w.heap.size + 3) 66 (C3 (S k).h))
            have FY := Lib.hid (by rw [hwy]; exact RF'.out.setCell (p := ⟨w.heap.size + 2, q, none⟩) (.inr (by simp)) _ : Fr w5.heap.size [w.heap.size + 2, w.heap.size + 3] w5 wy)
            have cl' : wy.cell? ⟨w.heap.size + 3, L, none⟩ = some (.int .i64 a) := by rw [hwy, ← cl]; exact World.cell?_of_block (Below.heap_setCell _ _ _ _ (by simp))
            have cs' : wy.cell? ⟨w.heap.size, q, none⟩ = some (.int .i64 (s q)) := by rw [hwy, ← cs]; exact World.cell?_of_block (Below.heap_setCell _ _ _ _ (by simp))
            have z3' := BY3.out.frozen L
            clear hwy cl cs z3 z2 c2
            refine wp_region_still_tail 9 (by kernel_rfl) (by kernel_rfl) ?_
            simp only [List.take_succ_cons, List.take_zero, List.drop_succ_cons, List.drop_zero]
            repeat (first | still_call (HW.out _) | still_step)
            refine wpStill_nil ?_
            change wpList _ _ _ _ _ wy.drew
            go_wp2_with fail
            go_roundw
            case rel =>
              refine ⟨k + 1, by omega, by go_num, ?_, ?_, ?_⟩
              · rw [HN.out]; exact (blk3_set1 BY3.out (k := L) (by omega) (a + b)).drew
              · rw [HN.out]; exact (BY2.out.far (p := ⟨w.heap.size + 3, L, none⟩) (by simp) _).drew
              · exact (FY.out.setCell (p := ⟨w.heap.size + 3, L, none⟩) (.inr (by simp)) _).drew
            case measure => simp [intOf]; omega
    · obtain rfl : k = 8 := by omega
      have hb := R2.out
      have h0 := hb.cell 0
      have h1 := hb.cell 1
      have h2 := hb.cell 2
      have h3 := hb.cell 3
      have h4 := hb.cell 4
      have h5 := hb.cell 5
      have h6 := hb.cell 6
      have h7 := hb.cell 7
      have BZ := Lib.hid (HB1.out.fr RF.out HB1.out.lt (by simp))
      have b0 := BZ.out.cell 0
      have b1 := BZ.out.cell 1
      have b2 := BZ.out.cell 2
      have b3 := BZ.out.cell 3
      have b4 := BZ.out.cell 4
      have b5 := BZ.out.cell 5
      have b6 := BZ.out.cell 6
      have b7 := BZ.out.cell 7
      have z0 := BZ.out.frozen 0
      have z1 := BZ.out.frozen 1
      have z2 := BZ.out.frozen 2
      have z3 := BZ.out.frozen 3
      have z4 := BZ.out.frozen 4
      have z5 := BZ.out.frozen 5
      have z6 := BZ.out.frozen 6
      have z7 := BZ.out.frozen 7
      have hlt0 := BZ.out.lt
      have hlt1 := R2.out.lt
      obtain ⟨E, hE⟩ : ∃ E, E = (S 8).r := ⟨_, rfl⟩
      have HE := Lib.hid hE
      rw [← hE] at h0 h1 h2 h3 h4 h5 h6 h7
      clear hb hE
      go_wp2_with fail
      refine bodyPost_ret (results_cell_row rfl _ _ (w.heap.size + 1) 64 (C8 E) (0, 0) _ rfl (blk_set8 BZ.out E) Try.underlying64 rfl (by kernel_rfl)) rfl ⟨xs, ?_, HST.out, fr_set8 (HFR.out.trans (RF.out.mono HFR.out.size (by simp))) (.inl (by omega)) E⟩
      rw [HE.out, HS.out]
end Go.Proofs.Ytkgllkoooohikaa
