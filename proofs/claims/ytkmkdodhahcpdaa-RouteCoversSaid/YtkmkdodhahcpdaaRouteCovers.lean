/- forebaylaw09.RouteCovers. -/
import Derived.Test.YtkmkdodhahcpdaaRouteTells
namespace Go.Proofs.Ytkmkdodhahcpdaa
open Go.RowKit Go.Fb

theorem someTo_add (p q : Nat → Bool) (s : Nat → Bool) (h : ∀ k, s k = (p k || q k)) (hd : ∀ k, ¬ (p k = true ∧ q k = true)) (n : Nat) : (someTo s n).length = (someTo p n).length + (someTo q n).length := by
  induction n with
  | zero => rfl
  | succ n ih =>
    rw [someTo_succ, someTo_succ, someTo_succ, List.length_append, List.length_append, List.length_append, ih, h n]
    have := hd n
    cases hp : p n <;> cases hq : q n <;> simp_all <;> omega
theorem someTo_all (p : Nat → Bool) (n : Nat) (h : ∀ k, k < n → p k = true) : (someTo p n).length = n := by
  induction n with
  | zero => rfl
  | succ n ih => rw [someTo_succ, List.length_append, ih (fun k hk => h k (by omega)), h n (by omega)]; rfl
theorem someTo_none (p : Nat → Bool) (n : Nat) (h : ∀ k, k < n → p k = false) : (someTo p n).length = 0 := by
  induction n with
  | zero => rfl
  | succ n ih => rw [someTo_succ, List.length_append, ih (fun k hk => h k (by omega)), h n (by omega)]; rfl
theorem someTo_mem {p : Nat → Bool} {n : Nat} {x : Int} (h : x ∈ someTo p n) : ∃ k, k < n ∧ x = (k : Int) ∧ p k = true := by
  unfold someTo at h
  obtain ⟨k, hk, rfl⟩ := List.mem_map.1 h
  rw [List.mem_filter] at hk
  exact ⟨k, by simpa using hk.1, rfl, hk.2⟩
/-- How many groups have a task below t. -/
def under (r : Nat → Int) (t : Nat) : Nat := (someTo (fun k => decide (r k < t)) 8).length
theorem under_succ (r : Nat → Int) (t : Nat) : under r (t + 1) = under r t + (someTo (fun k => r k == (t : Int)) 8).length := by
  unfold under
  refine someTo_add _ _ _ (fun k => ?_) (fun k => ?_) 8
  · rw [Bool.eq_iff_iff]; simp; omega
  · simp; omega
theorem under_le (r : Nat → Int) (t : Nat) : under r t ≤ 8 := someTo_length _ _

def CovInv (w0 : World) (ga gb : Nat) (a : Nat → Int) (q : Int) (wx : World) : Prop := Blk wx ga 31 (C8 a) ∧ Blk wx gb 31 (C8 fun _ => q) ∧ Below w0.heap.size w0 wx
theorem CovInv.step {w0 : World} {ga gb : Nat} {a : Nat → Int} {q : Int} {wx wy : World} (h : RowKit.Hid (CovInv w0 ga gb a q wx)) (hf : Fr wx.heap.size [] wx wy) : RowKit.Hid (CovInv w0 ga gb a q wy) := by
  obtain ⟨h1, h2, h5⟩ := h
  exact ⟨h1.fr hf h1.lt (by simp), h2.fr hf h2.lt (by simp), h5.trans (hf.below.mono h5.size)⟩
theorem CovInv.drew {w0 : World} {ga gb : Nat} {a : Nat → Int} {q : Int} {wx : World} (h : RowKit.Hid (CovInv w0 ga gb a q wx)) : RowKit.Hid (CovInv w0 ga gb a q wx.drew) := by
  obtain ⟨h1, h2, h5⟩ := h
  exact ⟨h1, h2, h5.drew⟩
theorem CovInv.cells {w0 : World} {ga gb : Nat} {a : Nat → Int} {q : Int} {wx : World} (h : CovInv w0 ga gb a q wx) :
    wx.cell? ⟨ga, 0, none⟩ = some (.int .i64 (a 0)) ∧ wx.cell? ⟨ga, 1, none⟩ = some (.int .i64 (a 1)) ∧ wx.cell? ⟨ga, 2, none⟩ = some (.int .i64 (a 2)) ∧ wx.cell? ⟨ga, 3, none⟩ = some (.int .i64 (a 3)) ∧ wx.cell? ⟨ga, 4, none⟩ = some (.int .i64 (a 4)) ∧ wx.cell? ⟨ga, 5, none⟩ = some (.int .i64 (a 5)) ∧ wx.cell? ⟨ga, 6, none⟩ = some (.int .i64 (a 6)) ∧ wx.cell? ⟨ga, 7, none⟩ = some (.int .i64 (a 7)) ∧ wx.cell? ⟨gb, 0, none⟩ = some (.int .i64 q) ∧ wx.cell? ⟨gb, 1, none⟩ = some (.int .i64 q) ∧ wx.cell? ⟨gb, 2, none⟩ = some (.int .i64 q) ∧ wx.cell? ⟨gb, 3, none⟩ = some (.int .i64 q) ∧ wx.cell? ⟨gb, 4, none⟩ = some (.int .i64 q) ∧ wx.cell? ⟨gb, 5, none⟩ = some (.int .i64 q) ∧ wx.cell? ⟨gb, 6, none⟩ = some (.int .i64 q) ∧ wx.cell? ⟨gb, 7, none⟩ = some (.int .i64 q) := by
  obtain ⟨h1, h2, _⟩ := h
  exact ⟨h1.cell 0, h1.cell 1, h1.cell 2, h1.cell 3, h1.cell 4, h1.cell 5, h1.cell 6, h1.cell 7, h2.cell 0, h2.cell 1, h2.cell 2, h2.cell 3, h2.cell 4, h2.cell 5, h2.cell 6, h2.cell 7⟩
/-- A list of this many ints. -/
def RetLen (w : World) (n : Nat) (e : Ending) (w' : World) : Prop := ∃ A c, e = .returned (.slice A n c) ∧ Fr w.heap.size [] w w'
theorem RetInts.len {w w' : World} {xs : List Int} {e : Ending} {n : Nat} (hn : xs.length = n) (h : RetInts w xs e w') : RetLen w n e w' := by
  obtain ⟨A, c, h1, _, h3⟩ := h
  exact ⟨A, c, by rw [h1, hn], h3⟩
theorem right8_const {p q : Int} (hp : 1 ≤ p ∧ p ≤ 3) (hq : 0 ≤ q ∧ q < p) : right8 p (fun _ => q) = true := by
  unfold right8 inTo
  simp only [decide_eq_true hp, Bool.true_and, List.all_eq_true]
  intro k _
  simpa using hq

set_option maxRecDepth 100000 in
set_option maxHeartbeats 4000000 in
theorem walk_RouteCovers (p : Int) (_ : (Lit.int .i64 p).wf = true) (r : Nat → Int) (tt : Int) (htt : 0 ≤ tt ∧ tt ≤ 255) (w : World) :
    Calls Try.prog 9 #[.int .i64 p, A8 r, .int .u8 tt] w fun e w' => e = .returned (.bool true) ∧ Below w.heap.size w w' := by
  obtain ⟨ht0, ht1⟩ := htt
  have hl := fun w => lright_any p r w
  have hr := fun w => right_any p r w
  cases hv : right8 p r
  case false =>
    rw [hv] at hl hr
    have HL := Lib.hid hl
    have HR := Lib.hid hr
    clear hl hr hv
    go_enter Try.func9, Try.ntmps9
    go_wp2_with fail
    refine (awake09 _).mono ?_
    rintro e w1 ⟨rfl, b1⟩
    have hb := (Blk.new w 31 (C8 r)).below b1 (by simp)
    have h0 := hb.cell 0
    have h1 := hb.cell 1
    have h2 := hb.cell 2
    have h3 := hb.cell 3
    have h4 := hb.cell 4
    have h5 := hb.cell 5
    have h6 := hb.cell 6
    have h7 := hb.cell 7
    have HB := Lib.hid hb
    have B1 := Lib.hid ((((Below.refl _ w).alloc (Nat.le_refl _) _)).trans (b1.mono (by simp)))
    clear b1 hb
    go_wp2_with fail
    refine (HL.out _).mono ?_
    rintro e w2 ⟨rfl, f2⟩
    have hb := HB.out.fr f2 HB.out.lt (by simp)
    clear h0 h1 h2 h3 h4 h5 h6 h7
    have h0 := hb.cell 0
    have h1 := hb.cell 1
    have h2 := hb.cell 2
    have h3 := hb.cell 3
    have h4 := hb.cell 4
    have h5 := hb.cell 5
    have h6 := hb.cell 6
    have h7 := hb.cell 7
    have B2 := Lib.hid (B1.out.trans (f2.below.mono B1.out.size))
    clear f2 hb HB B1
    go_wp2_with fail
    refine (HR.out _).mono ?_
    rintro e w3 ⟨rfl, f3⟩
    have B3 := Lib.hid (B2.out.trans (f3.below.mono B2.out.size))
    clear f3 h0 h1 h2 h3 h4 h5 h6 h7
    go_wp2_with fail
    go_ret
    exact ⟨rfl, B3.out⟩
  have hp : 1 ≤ p ∧ p ≤ 3 := by
    unfold right8 at hv
    rw [Bool.and_eq_true, decide_eq_true_eq] at hv
    exact hv.1
  have RG := Lib.hid (fun k (hk : k < 8) => right8_get hv hk)
  obtain ⟨P, rfl⟩ := Int.eq_ofNat_of_zero_le (show 0 ≤ p by omega)
  obtain ⟨hp1, hp2⟩ := hp
  have HV := Lib.hid hv
  rw [hv] at hl hr
  have HL := Lib.hid hl
  have HR := Lib.hid hr
  clear hl hr hv
  go_enter Try.func9, Try.ntmps9
  go_wp2_with fail
  refine (awake09 _).mono ?_
  rintro e w1 ⟨rfl, b1⟩
  have hb := (Blk.new w 31 (C8 r)).below b1 (by simp)
  have h0 := hb.cell 0
  have h1 := hb.cell 1
  have h2 := hb.cell 2
  have h3 := hb.cell 3
  have h4 := hb.cell 4
  have h5 := hb.cell 5
  have h6 := hb.cell 6
  have h7 := hb.cell 7
  have HB := Lib.hid hb
  have B1 := Lib.hid ((((Below.refl _ w).alloc (Nat.le_refl _) _)).trans (b1.mono (by simp)))
  clear b1 hb
  go_wp2_with fail
  refine (HL.out _).mono ?_
  rintro e w2 ⟨rfl, f2⟩
  have HB2 := Lib.hid (HB.out.fr f2 HB.out.lt (by simp))
  have B2 := Lib.hid (B1.out.trans (f2.below.mono B1.out.size))
  clear h0 h1 h2 h3 h4 h5 h6 h7 f2 HB B1
  go_wp2_with fail
  go_loopw [7, 8] (fun m t wr => ∃ T : Nat, T ≤ P ∧ t = .int .i64 T ∧ m = .int .i64 (under r T) ∧ Blk wr w.heap.size 31 (C8 r) ∧ Below w.heap.size w wr) (fun _ t _ => P - (intOf t).toNat)
  case atStart => exact ⟨0, by omega, rfl, by rw [show under r 0 = 0 from someTo_none _ _ (fun k hk => by have := (RG.out k hk).1; simp; omega)]; rfl, HB2.out, B2.out⟩
  case round =>
    obtain ⟨T, hT, rfl, rfl, hb, hbel⟩ := hrel
    have HBr := Lib.hid hb
    have BL := Lib.hid hbel
    have hu := under_le r T
    by_cases hlt : T < P
    · have hlti : (T : Int) < (P : Int) := by omega
      have h0 := hb.cell 0
      have h1 := hb.cell 1
      have h2 := hb.cell 2
      have h3 := hb.cell 3
      have h4 := hb.cell 4
      have h5 := hb.cell 5
      have h6 := hb.cell 6
      have h7 := hb.cell 7
      clear hb hbel
      go_wp2_with fail
      refine (groups_any r T _).mono ?_
      rintro e w3 ⟨A, c, rfl, hown, hf⟩
      have HB3 := Lib.hid (HBr.out.fr hf HBr.out.lt (by simp))
      have BL3 := Lib.hid (BL.out.trans (hf.below.mono BL.out.size))
      have RR := Lib.hid (Reads.of_own hown)
      have hN8 := someTo_length (fun k => r k == (T : Int)) 8
      have US := Lib.hid (under_succ r T)
      have MEM := Lib.hid (fun x (hx : x ∈ someTo (fun k => r k == (T : Int)) 8) => someTo_mem hx)
      clear hf hown h0 h1 h2 h3 h4 h5 h6 h7
      generalize someTo (fun k => r k == (T : Int)) 8 = L at *
      obtain ⟨N, hN⟩ : ∃ N, N = L.length := ⟨_, rfl⟩
      rw [← hN] at RR US hN8 ⊢
      have HN := Lib.hid hN
      clear hN
      go_wp2_with fail
      go_loop [7, 32] (fun m i => ∃ j : Nat, j ≤ N ∧ i = .int .i64 j ∧ m = .int .i64 ((under r T + j : Nat) : Int)) (fun _ i => N - (intOf i).toNat)
      case atStart => exact ⟨0, by omega, rfl, rfl⟩
      case round =>
        obtain ⟨j, hj, rfl, rfl⟩ := hrel
        by_cases hlj : j < N
        · obtain ⟨b, off, u, rfl, hbb, hu', hcell⟩ := RR.out.one hlj
          obtain ⟨x, hx, rfl⟩ : ∃ x, L[j]? = some x ∧ Value.int .i64 x = u := by simpa using hu'
          obtain ⟨k, hk8, rfl, hrk⟩ := MEM.out x (List.mem_of_getElem? hx)
          have hce := HB3.out.cell k
          rw [C8_get r hk8] at hce
          have hki : (k : Int) < 8 := by omega
          have hne : (r k != (T : Int)) = false := by simpa using hrk
          clear hx hu' hrk
          go_wp2_with fail
          go_round
          case rel => exact ⟨j + 1, by omega, by go_num, by go_num⟩
          case measure => simp [intOf]; omega
        · obtain rfl : j = N := by omega
          go_wp2_with fail
          go_roundw
          case rel => exact ⟨T + 1, by omega, by go_num, by rw [US.out], HB3.out, BL3.out⟩
          case measure => simp [intOf]; omega
    · obtain rfl : T = P := by omega
      have hall : under r T = 8 := someTo_all _ _ (fun k hk => by have := (RG.out k hk).2; simp; omega)
      rw [hall]
      have h0 := hb.cell 0
      have h1 := hb.cell 1
      have h2 := hb.cell 2
      have h3 := hb.cell 3
      have h4 := hb.cell 4
      have h5 := hb.cell 5
      have h6 := hb.cell 6
      have h7 := hb.cell 7
      clear hb hbel hall hu HL HR
      go_wp2_with fail
      have hq0 : 0 ≤ tt % (T : Int) ∧ tt % (T : Int) < (T : Int) := ⟨Int.emod_nonneg _ (by omega), Int.emod_lt_of_pos _ (by omega)⟩
      generalize tt % (T : Int) = q at *
      have hrd := Reads.of_blk (size := 1) (m := 8) (Blk.new wr 3 #[.int .i64 0, .int .i64 1, .int .i64 2, .int .i64 3, .int .i64 4, .int .i64 5, .int .i64 6, .int .i64 7]) rfl
      have hmg := merge_any r _ 8 8 [0, 1, 2, 3, 4, 5, 6, 7] q (wr.alloc (.cells #[.int .i64 0, .int .i64 1, .int .i64 2, .int .i64 3, .int .i64 4, .int .i64 5, .int .i64 6, .int .i64 7] 3)) (hrd.more (by simp)) (by unfold maxLen; omega)
      have hme : C8 (mergeR r [0, 1, 2, 3, 4, 5, 6, 7] q) = C8 fun _ => q := by
        apply C8_congr
        intro k hk
        have hh : hasI [0, 1, 2, 3, 4, 5, 6, 7] (k : Int) = true := by
          match k, hk with
          | 0, _ | 1, _ | 2, _ | 3, _ | 4, _ | 5, _ | 6, _ | 7, _ => rfl
        unfold mergeR
        rw [if_pos ⟨hq0.1, by omega, hh⟩]
      rw [show A8 (mergeR r [0, 1, 2, 3, 4, 5, 6, 7] q) = A8 fun _ => q from congrArg Value.agg hme] at hmg
      refine hmg.mono ?_
      rintro e w4 ⟨rfl, f4⟩
      have f4' : Fr wr.heap.size [] wr w4 := ((Fr.refl _ _ _).alloc (Nat.le_refl _) _).trans (f4.mono (by simp) (by simp))
      have HB4 := HBr.out.fr f4' HBr.out.lt (by simp)
      have BL4 := BL.out.trans (f4'.below.mono BL.out.size)
      obtain ⟨G, hG⟩ : ∃ G, G = (someTo (fun k => r k == q) 8).length := ⟨_, rfl⟩
      obtain ⟨M, hM⟩ : ∃ M, M = (someTo (fun k => r k != q) 8).length := ⟨_, rfl⟩
      have hMG : G + M = 8 := by
        rw [hG, hM, ← someTo_add (fun k => r k == q) (fun k => r k != q) (fun _ => true) (fun k => by cases h : (r k == q) <;> simp_all) (fun k => by simp) 8]
        exact someTo_all _ _ (fun _ _ => rfl)
      have HG1 := Lib.hid (fun w => (groups_any (fun _ => q) q w).mono fun e w' h => RetInts.len (n := 8) (someTo_all _ _ (fun k _ => by simp)) h)
      have HG2 := Lib.hid (fun w => (groups_any r q w).mono fun e w' h => RetInts.len hG.symm h)
      have HM2 := Lib.hid (fun w => (moves_any r (fun _ => q) w).mono fun e w' h => RetInts.len hM.symm h)
      have hr1 := fun w => right_any T (fun _ => q) w
      rw [right8_const ⟨hp1, hp2⟩ hq0] at hr1
      have HR1 := Lib.hid hr1
      have hw8 : IntKind.i64.wrap (8 - (G : Int)) = (M : Int) := by rw [IntKind.wrap_i64]; omega
      have INV0 : RowKit.Hid (CovInv w w.heap.size w4.heap.size r q (w4.alloc (.cells (C8 fun _ => q) 31))) := ⟨HB4.alloc _, Blk.new _ _ _, BL4.alloc BL4.size _⟩
      have hgw4 := HB4.lt
      clear f4 f4' HB4 BL4 hG hM hMG hr1 hmg hme hrd h0 h1 h2 h3 h4 h5 h6 h7
      go_wp2_with fail
      have INV := CovInv.drew INV0
      clear INV0
      go_region_held3 (fun wx => wx.cell? ⟨w.heap.size, 0, none⟩ = some (.int .i64 (r 0)) ∧ wx.cell? ⟨w.heap.size, 1, none⟩ = some (.int .i64 (r 1)) ∧ wx.cell? ⟨w.heap.size, 2, none⟩ = some (.int .i64 (r 2)) ∧ wx.cell? ⟨w.heap.size, 3, none⟩ = some (.int .i64 (r 3)) ∧ wx.cell? ⟨w.heap.size, 4, none⟩ = some (.int .i64 (r 4)) ∧ wx.cell? ⟨w.heap.size, 5, none⟩ = some (.int .i64 (r 5)) ∧ wx.cell? ⟨w.heap.size, 6, none⟩ = some (.int .i64 (r 6)) ∧ wx.cell? ⟨w.heap.size, 7, none⟩ = some (.int .i64 (r 7)) ∧ wx.cell? ⟨w4.heap.size, 0, none⟩ = some (.int .i64 q) ∧ wx.cell? ⟨w4.heap.size, 1, none⟩ = some (.int .i64 q) ∧ wx.cell? ⟨w4.heap.size, 2, none⟩ = some (.int .i64 q) ∧ wx.cell? ⟨w4.heap.size, 3, none⟩ = some (.int .i64 q) ∧ wx.cell? ⟨w4.heap.size, 4, none⟩ = some (.int .i64 q) ∧ wx.cell? ⟨w4.heap.size, 5, none⟩ = some (.int .i64 q) ∧ wx.cell? ⟨w4.heap.size, 6, none⟩ = some (.int .i64 q) ∧ wx.cell? ⟨w4.heap.size, 7, none⟩ = some (.int .i64 q)) (exact CovInv.cells INV.out)
        (first
          | (go_at_call 23; refine (HG1.out _).mono ?_; rintro e w' ⟨AG, cG, rfl, hf⟩; have INV := CovInv.step INV hf; clear hf)
          | (go_at_call 23; refine (HG2.out _).mono ?_; rintro e w' ⟨AG, cG, rfl, hf⟩; have INV := CovInv.step INV hf; clear hf)
          | (go_at_call 24; refine (HM2.out _).mono ?_; rintro e w' ⟨AG, cG, rfl, hf⟩; have INV := CovInv.step INV hf; clear hf)
          | (go_at_call 20; refine (HR1.out _).mono ?_; rintro e w' ⟨rfl, hf⟩; have INV := CovInv.step INV hf; clear hf))
      all_goals
        go_wp2_with fail
        go_ret
        exact ⟨rfl, INV.out.2.2⟩
end Go.Proofs.Ytkmkdodhahcpdaa
