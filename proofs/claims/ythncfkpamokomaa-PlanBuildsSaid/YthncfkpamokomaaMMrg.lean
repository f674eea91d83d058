/- Texts merged into one, for the number of files a claim may have: Merge. -/
import Derived.Test.YthncfkpamokomaaMA
import Derived.Test.YthncfkpamokomaaMB
namespace Go.Proofs.Ythncfkpamokomaa
open Go.RowKit Go.Fb
set_option linter.unusedVariables false
def hasIJ (xs : List Int) (n : Int) : Bool := xs.any (· == n)
theorem hasI_succ {xs : List Int} {k : Nat} {x : Int} (n : Int) (h : xs[k]? = some x) : hasIJ (xs.take (k + 1)) n = (hasIJ (xs.take k) n || x == n) := by
  unfold hasIJ
  rw [List.take_add_one, h, List.any_append]
  simp
theorem hasI_hit {xs : List Int} {k : Nat} {x n : Int} (h : xs[k]? = some x) (he : (x == n) = true) : hasIJ xs n = true := by
  unfold hasIJ
  rw [List.any_eq_true]
  exact ⟨x, List.mem_of_getElem? h, he⟩

set_option maxRecDepth 100000 in
theorem has_anyJ (A : Option Addr) (n c B : Nat) (xs : List Int) (v : Int) (w : World) (hr : Reads w B 1 A n (xs.map (Value.int .i64))) (hn : n ≤ maxLen) :
    Calls Try.prog 13 #[.slice A n c, .int .i64 v] w fun e w' => e = .returned (.bool (hasIJ xs v)) ∧ w = w' := by
  unfold maxLen at hn
  have HL := Lib.hid (show xs.length = n by simpa using hr.1)
  have HR := Lib.hid hr
  clear hr
  go_enter Try.func13, Try.ntmps13
  go_wp2_with fail
  go_loop [5] (fun i => ∃ k : Nat, k ≤ n ∧ i = .int .i64 k ∧ hasIJ (xs.take k) v = false) (fun i => n - (intOf i).toNat)
  case atStart => exact ⟨0, Nat.zero_le _, rfl, rfl⟩
  case round =>
    obtain ⟨k, hk, rfl, hall⟩ := hrel
    have HA := Lib.hid hall
    clear hall
    by_cases hlt : k < n
    · obtain ⟨b, off, u, rfl, hb, hu, hcell⟩ := HR.out.one hlt
      obtain ⟨x, hx, rfl⟩ : ∃ x, xs[k]? = some x ∧ Value.int .i64 x = u := by simpa using hu
      have HX := Lib.hid hx
      clear hx hu
      have hki : (k : Int) < (n : Int) := by omega
      by_cases he : (x == v) = true
      · go_wp2_with fail
        go_ret
        exact ⟨by rw [hasI_hit HX.out he]; rfl, rfl⟩
      · have he' : (x == v) = false := by simpa using he
        clear he
        go_wp2_with fail
        go_round
        case rel => exact ⟨k + 1, by omega, by go_num, by rw [hasI_succ v HX.out, HA.out, he']; rfl⟩
        case measure => simp [intOf]; omega
    · obtain rfl : k = n := by omega
      go_wp2_with fail
      go_ret
      exact ⟨by rw [← HA.out, List.take_of_length_le (Nat.le_of_eq HL.out)]; rfl, rfl⟩

def IdxOut (xs : List Int) (v : Int) (w : World) (e : Ending) (w' : World) : Prop := ∃ i : Int, e = .returned (.int .i64 i) ∧ (0 ≤ i ↔ hasIJ xs v = true) ∧ w = w'
set_option maxRecDepth 100000 in
theorem index_anyJ (A : Option Addr) (n c B : Nat) (xs : List Int) (v : Int) (w : World) (hr : Reads w B 1 A n (xs.map (Value.int .i64))) (hn : n ≤ maxLen) :
    Calls Try.prog 60 #[.slice A n c, .int .i64 v] w (IdxOut xs v w) := by
  unfold maxLen at hn
  have HL := Lib.hid (show xs.length = n by simpa using hr.1)
  have HR := Lib.hid hr
  clear hr
  go_enter Try.func60, Try.ntmps60
  go_wp2_with fail
  go_loop [8] (fun i => ∃ k : Nat, k ≤ n ∧ i = .int .i64 k ∧ hasIJ (xs.take k) v = false) (fun i => n - (intOf i).toNat)
  case atStart => exact ⟨0, Nat.zero_le _, rfl, rfl⟩
  case round =>
    obtain ⟨k, hk, rfl, hall⟩ := hrel
    have HA := Lib.hid hall
    clear hall
    by_cases hlt : k < n
    · obtain ⟨b, off, u, rfl, hb, hu, hcell⟩ := HR.out.one hlt
      obtain ⟨x, hx, rfl⟩ : ∃ x, xs[k]? = some x ∧ Value.int .i64 x = u := by simpa using hu
      have HX := Lib.hid hx
      clear hx hu
      have hki : (k : Int) < (n : Int) := by omega
      by_cases he : v = x
      · have he1 : (v == x) = true := by simpa using he
        have HE := Lib.hid he
        clear he
        go_wp2_with fail
        go_ret
        exact ⟨k, rfl, by rw [hasI_hit HX.out (by rw [HE.out]; simp)]; simp, rfl⟩
      · have he1 : (v == x) = false := by simpa using he
        have he2 : (x == v) = false := by simpa using fun h => he h.symm
        have HE := Lib.hid he2
        clear he he2
        go_wp2_with fail
        go_round
        case rel => exact ⟨k + 1, by omega, by go_num, by rw [hasI_succ v HX.out, HA.out, HE.out]; rfl⟩
        case measure => simp [intOf]; omega
    · obtain rfl : k = n := by omega
      go_wp2_with fail
      go_ret
      exact ⟨-1, rfl, by rw [← List.take_of_length_le (Nat.le_of_eq HL.out), HA.out]; simp, rfl⟩
theorem contains_anyJ (A : Option Addr) (n c B : Nat) (xs : List Int) (v : Int) (w : World) (hr : Reads w B 1 A n (xs.map (Value.int .i64))) (hn : n ≤ maxLen) :
    Calls Try.prog 41 #[.slice A n c, .int .i64 v] w fun e w' => e = .returned (.bool (hasIJ xs v)) ∧ w = w' := by
  go_enter Try.func41, Try.ntmps41
  go_wp2_with fail
  refine (index_anyJ A n c B xs v w hr hn).mono ?_
  rintro e w' ⟨i, rfl, hi, rfl⟩
  have HI := Lib.hid hi
  clear hi hr
  by_cases h : 0 ≤ i
  · go_wp2_with fail
    go_ret
    exact ⟨by rw [HI.out.1 h]; simp, rfl⟩
  · go_wp2_with fail
    go_ret
    have : hasIJ xs v = false := by
      cases hh : hasIJ xs v
      · rfl
      · exact absurd (HI.out.2 hh) (by omega)
    exact ⟨by rw [this]; simp; omega, rfl⟩

def intsEq (xs ys : List Int) : Bool := decide (xs = ys)
/-- A route with some groups given to a task. -/
def mergeR (r : Nat → Int) (xs : List Int) (to : Int) (k : Nat) : Int := if 0 ≤ to ∧ to < 3 ∧ hasIJ xs k = true then to else r k
set_option maxRecDepth 100000 in
set_option maxHeartbeats 1000000 in
theorem merge_any (r : Nat → Int) (A : Option Addr) (n c : Nat) (xs : List Int) (to : Int) (w : World) (hr : Reads w w.heap.size 1 A n (xs.map (Value.int .i64))) (hn : n ≤ maxLen) :
    Calls Try.prog 28 #[A8 r, .slice A n c, .int .i64 to] w fun e w' => e = .returned (A8 (mergeR r xs to)) ∧ Fr w.heap.size [] w w' := by
  have key : (to < 0 ∨ 3 ≤ to) ∨ (0 ≤ to ∧ to < 3) := by omega
  have HR := Lib.hid hr
  clear hr
  have hblk : ∀ w : World, Blk ((w.alloc (.cells (C8 r) 31)).alloc (.cells (C8 fun _ => 0) 31)) (w.heap.size + 1) 31 (C8 fun _ => 0) := fun w => by
    have h := Blk.new (w.alloc (.cells (C8 r) 31)) 31 (C8 fun _ => 0)
    rwa [show (w.alloc (.cells (C8 r) 31)).heap.size = w.heap.size + 1 by simp] at h
  have hblr : ∀ w : World, Blk ((w.alloc (.cells (C8 r) 31)).alloc (.cells (C8 r) 31)) (w.heap.size + 1) 31 (C8 r) := fun w => by
    have h := Blk.new (w.alloc (.cells (C8 r) 31)) 31 (C8 r)
    rwa [show (w.alloc (.cells (C8 r) 31)).heap.size = w.heap.size + 1 by simp] at h
  have HBK := Lib.hid hblk
  have HBR := Lib.hid hblr
  clear hblk hblr
  rcases key with hto | ⟨t0, t1⟩
  · have he : A8 (mergeR r xs to) = A8 r := congrArg Value.agg (C8_congr fun k _ => by unfold mergeR; rw [if_neg (by omega)])
    rw [he]
    clear he
    rcases hto with hto | hto
    all_goals
      go_enter Try.func28, Try.ntmps28
      go_wp2_with fail
      exact bodyPost_ret (results_cell_row rfl _ _ (w.heap.size + 1) 31 (C8 r) (0, 0) _ rfl (HBR.out w) Try.underlying31 rfl (by kernel_rfl)) rfl ⟨rfl, ((Fr.refl _ _ _).alloc (Nat.le_refl _) _).alloc (by simp) _⟩
  · obtain ⟨E, hE⟩ : ∃ E, E = mergeR r xs to := ⟨_, rfl⟩
    rw [← hE]
    have HE : RowKit.Hid (∀ k : Nat, E k = if hasIJ xs k = true then to else r k) := fun k => by rw [hE]; unfold mergeR; simp [t0, t1]
    clear hE
    go_enter Try.func28, Try.ntmps28
    go_wp2_with fail
    go_loopw [15] (fun i wr => ∃ k : Nat, k ≤ 8 ∧ i = .int .i64 k ∧ Blk wr w.heap.size 31 (C8 fun j => if j < k then E j else r j) ∧ Blk wr (w.heap.size + 1) 31 (C8 fun _ => 0) ∧ Fr w.heap.size [] w wr) (fun i _ => 8 - (intOf i).toNat)
    case atStart =>
      exact ⟨0, by omega, rfl, (Blk.new _ _ _).alloc _, HBK.out w, ((Fr.refl _ _ _).alloc (Nat.le_refl _) _).alloc (by simp) _⟩
    case round =>
      obtain ⟨k, hk, rfl, hb, hb0, hfr⟩ := hrel
      have HF := Lib.hid hfr
      have HB0 := Lib.hid hb0
      clear hfr hb0
      by_cases hlt : k < 8
      · have hc := hb.cell k
        rw [C8_get _ hlt] at hc
        simp only [Nat.lt_irrefl, if_false] at hc
        have hz := hb.frozen k
        have HB := Lib.hid hb
        have hcon := contains_anyJ A n c w.heap.size xs k wr (HR.out.frL HF.out (Nat.le_refl _) (by simp)) hn
        have HC := Lib.hid hcon
        clear hb hcon
        have e2 := HE.out k
        by_cases hh : hasIJ xs k = true
        · rw [hh] at HC
          rw [if_pos hh] at e2
          have E2 := Lib.hid e2
          clear e2 hh
          go_wp2_with (go_at_call 41; refine HC.out.mono ?_; rintro e w' ⟨rfl, rfl⟩)
          go_roundw
          case rel =>
            refine ⟨k + 1, by omega, by go_num, ?_, HB0.out.far (by simp) _, HF.out.setCell (.inl (by simp)) _⟩
            have h := blk_set1 HB.out hlt to
            rw [C8_congr (r' := fun j => if j < k + 1 then E j else r j)] at h
            · exact h
            · intro j _
              by_cases h1 : j = k
              · subst h1; simp [E2.out]
              · have : (j < k + 1) = (j < k) := by simp; omega
                simp [h1, this]
          case measure => simp [intOf]; omega
        · have hh' : hasIJ xs k = false := by simpa using hh
          rw [hh'] at HC
          rw [if_neg hh] at e2
          have E2 := Lib.hid e2
          clear e2 hh hh'
          go_wp2_with (go_at_call 41; refine HC.out.mono ?_; rintro e w' ⟨rfl, rfl⟩)
          go_roundw
          case rel =>
            refine ⟨k + 1, by omega, by go_num, ?_, HB0.out, HF.out⟩
            have h := HB.out
            rw [C8_congr (r' := fun j => if j < k + 1 then E j else r j)] at h
            · exact h
            · intro j _
              by_cases h1 : j = k
              · subst h1; simp [E2.out]
              · have : (j < k + 1) = (j < k) := by simp; omega
                simp [this]
          case measure => simp [intOf]; omega
      · obtain rfl : k = 8 := by omega
        have e1 : (C8 fun j => if j < 8 then E j else r j) = C8 E := C8_congr fun j hj => by simp [hj]
        rw [e1] at hb
        have h0 := hb.cell 0
        have h1 := hb.cell 1
        have h2 := hb.cell 2
        have h3 := hb.cell 3
        have h4 := hb.cell 4
        have h5 := hb.cell 5
        have h6 := hb.cell 6
        have h7 := hb.cell 7
        have b0 := HB0.out.cell 0
        have b1 := HB0.out.cell 1
        have b2 := HB0.out.cell 2
        have b3 := HB0.out.cell 3
        have b4 := HB0.out.cell 4
        have b5 := HB0.out.cell 5
        have b6 := HB0.out.cell 6
        have b7 := HB0.out.cell 7
        have z0 := HB0.out.frozen 0
        have z1 := HB0.out.frozen 1
        have z2 := HB0.out.frozen 2
        have z3 := HB0.out.frozen 3
        have z4 := HB0.out.frozen 4
        have z5 := HB0.out.frozen 5
        have z6 := HB0.out.frozen 6
        have z7 := HB0.out.frozen 7
        go_wp2_with fail
        exact bodyPost_ret (results_cell_row rfl _ _ (w.heap.size + 1) 31 (C8 E) (0, 0) _ rfl (blk_set8 HB0.out E) Try.underlying31 rfl (by kernel_rfl)) rfl ⟨rfl, fr_set8 HF.out (.inl (by simp)) E⟩

theorem hasJ (l : List Int) (v : Int) : hasIJ l v = hasI l v := rfl
end Go.Proofs.Ythncfkpamokomaa
