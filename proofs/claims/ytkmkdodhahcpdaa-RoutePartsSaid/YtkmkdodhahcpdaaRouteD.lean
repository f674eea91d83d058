/- The contracts of package route, fourth part: texts, and merging. -/
import Derived.Test.YtkmkdodhahcpdaaRouteC
import Derived.Test.YtkmkdodhahcpdaaOctet
namespace Go.Proofs.Ytkmkdodhahcpdaa
open Go.RowKit Go.Fb

def digits (r : Nat → Int) (n : Nat) : List Int := (List.range n).map fun k => 48 + r k
theorem digits_succ (r : Nat → Int) (n : Nat) : digits r (n + 1) = digits r n ++ [48 + r n] := by
  unfold digits; rw [List.range_succ, List.map_append]; rfl
theorem digits_length (r : Nat → Int) (n : Nat) : (digits r n).length = n := by simp [digits]
theorem inTo_get {p : Int} {r : Nat → Int} {n k : Nat} (h : inTo p r n = true) (hk : k < n) : 0 ≤ r k ∧ r k < p := by
  unfold inTo at h
  rw [List.all_eq_true] at h
  have := h k (by simpa using hk)
  simpa using this
theorem right8_get {p : Int} {r : Nat → Int} {k : Nat} (h : right8 p r = true) (hk : k < 8) : 0 ≤ r k ∧ r k < p := by
  unfold right8 at h
  rw [Bool.and_eq_true] at h
  exact inTo_get h.2 hk

set_option maxRecDepth 100000 in
theorem text_no (r : Nat → Int) (w : World) (h : right8 3 r = false) : Calls Try.prog 39 #[A8 r] w fun e w' => e = .returned (.string ByteArray.empty) ∧ Fr w.heap.size [] w w' := by
  have hr := fun w => right_any 3 r w
  rw [h] at hr
  have HR := Lib.hid hr
  clear hr h
  go_enter Try.func39, Try.ntmps39
  go_wp2_with (go_at_call 20; refine (HR.out _).mono ?_; rintro e w1 ⟨rfl, hf⟩; have HF := Lib.hid hf; clear hf)
  go_ret
  exact ⟨rfl, ((Fr.refl _ _ _).alloc (Nat.le_refl _) _).trans (HF.out.mono (by simp) (by simp))⟩
set_option maxRecDepth 100000 in
theorem text_yes (r : Nat → Int) (w : World) (h : right8 3 r = true) : Calls Try.prog 39 #[A8 r] w fun e w' => e = .returned (.string (strOfNums (digits r 8))) ∧ Fr w.heap.size [] w w' := by
  have hr := fun w => right_any 3 r w
  rw [h] at hr
  have HR := Lib.hid hr
  have HV := Lib.hid h
  clear hr h
  go_enter Try.func39, Try.ntmps39
  go_wp2_with fail
  refine (HR.out _).mono ?_
  rintro e w1 ⟨rfl, hf⟩
  have hb := (Blk.new w 31 (C8 r)).fr hf (by simp) (by simp)
  have HF := Lib.hid (((Fr.refl _ _ _).alloc (Nat.le_refl _) _).trans (hf.mono (by simp) (by simp)) : Fr w.heap.size [] w w1)
  have h0 := hb.cell 0
  have h1 := hb.cell 1
  have h2 := hb.cell 2
  have h3 := hb.cell 3
  have h4 := hb.cell 4
  have h5 := hb.cell 5
  have h6 := hb.cell 6
  have h7 := hb.cell 7
  have hsz := HF.out.size
  clear hf hb
  go_wp2_with fail
  clear h0 h1 h2 h3 h4 h5 h6 h7
  go_loopw [3, 10] (fun s i wr => ∃ (k : Nat) (A : Option Addr) (c : Nat), k ≤ 8 ∧ i = .int .i64 k ∧ s = .slice A k c ∧ wr.ownsRow w.heap.size 5 1 (.slice A k c) k ((digits r k).map (Value.int .u8)) ∧ Fr w.heap.size [] w wr) (fun _ i _ => 8 - (intOf i).toNat)
  case atStart => exact ⟨0, none, 0, by omega, rfl, rfl, (World.ownsRow_nil _ _ _ _ : w1.ownsRow _ _ _ _ 0 []), HF.out⟩
  case round =>
    obtain ⟨k, A, c, hk, rfl, rfl, hown, hfr⟩ := hrel
    have hszr := hfr.size
    have HFR := Lib.hid hfr
    clear hfr
    by_cases hlt : k < 8
    · have hx := index8 r hlt
      obtain ⟨g0, g1⟩ := right8_get HV.out hlt
      go_wp2_with (at_builtin; refine wpList_app_lit _ rfl (.tmp 13) (.tmp 17) bytesTy rfl w.heap.size (.slice A k c) _ _ rfl hown 1 1 _ rfl rfl (by simp [Value.oneCell']) (by omega) (by omega) (by omega) ?_; intro A' c' w2 hown2 hg2 hat2)
      go_roundw
      case rel =>
        refine ⟨k + 1, A', c', by omega, by go_num, rfl, ?_, HFR.out.trans (Fr.of_app hg2 hown (by omega))⟩
        rw [digits_succ, List.map_append (l₁ := digits r k)]
        exact hown2
      case measure => simp [intOf]; omega
    · obtain rfl : k = 8 := by omega
      have hcv := run_convert_own Try.underlying24 Try.underlying5 Try.underlying9 hown
      clear hown
      go_wp2_with fail
      go_ret
      exact ⟨rfl, HFR.out⟩

/-- A route with some groups given to a task. -/
def mergeR (r : Nat → Int) (xs : List Int) (to : Int) (k : Nat) : Int := if 0 ≤ to ∧ to < 3 ∧ hasI xs k = true then to else r k
set_option maxRecDepth 100000 in
set_option maxHeartbeats 1000000 in
theorem merge_any (r : Nat → Int) (A : Option Addr) (n c : Nat) (xs : List Int) (to : Int) (w : World) (hr : Reads w w.heap.size 1 A n (xs.map (Value.int .i64))) (hn : n ≤ maxLen) :
    Calls Try.prog 41 #[A8 r, .slice A n c, .int .i64 to] w fun e w' => e = .returned (A8 (mergeR r xs to)) ∧ Fr w.heap.size [] w w' := by
  have key : (to < 0 ∨ 3 ≤ to) ∨ (0 ≤ to ∧ to < 3) := by omega
  have HR := Lib.hid hr
  clear hr
  have hblk : ∀ w : World, Blk ((w.alloc (.cells (C8 r) 31)).alloc (.cells (C8 fun _ => 0) 31)) (w.heap.size + 1) 31 (C8 fun _ => 0) := fun w => by
    have h := Blk.new (w.alloc (.cells (C8 r) 31)) 31 (C8 fun _ => 0)
    rwa [show (w.alloc (.cells (C8 r) 31)).heap.size = w.heap.size + 1 by simp] at h
  have hblr : ∀ w : World, Blk ((w.alloc (.cells (C8 r) 31)).alloc (.cells (C8 r) 31)) (w.heap.size + 1) 31 (C8 r) := fun w => by
    have h := Blk.new (w.alloc (.cells (C8 r) 31)) 31 (C8 r)
    rwa [show (w.alloc (.cells (C8 r) 31)).heap.size = w.heap.size + 1 by simp] at h
  have HBK := Lib.hid hblk
  have HBR := Lib.hid hblr
  clear hblk hblr
  rcases key with hto | ⟨t0, t1⟩
  · have he : A8 (mergeR r xs to) = A8 r := congrArg Value.agg (C8_congr fun k _ => by unfold mergeR; rw [if_neg (by omega)])
    rw [he]
    clear he
    rcases hto with hto | hto
    all_goals
      go_enter Try.func41, Try.ntmps41
      go_wp2_with fail
      exact bodyPost_ret (results_cell_row rfl _ _ (w.heap.size + 1) 31 (C8 r) (0, 0) _ rfl (HBR.out w) Try.underlying31 rfl (by kernel_rfl)) rfl ⟨rfl, ((Fr.refl _ _ _).alloc (Nat.le_refl _) _).alloc (by simp) _⟩
  · obtain ⟨E, hE⟩ : ∃ E, E = mergeR r xs to := ⟨_, rfl⟩
    rw [← hE]
    have HE : RowKit.Hid (∀ k : Nat, E k = if hasI xs k = true then to else r k) := fun k => by rw [hE]; unfold mergeR; simp [t0, t1]
    clear hE
    go_enter Try.func41, Try.ntmps41
    go_wp2_with fail
    go_loopw [15] (fun i wr => ∃ k : Nat, k ≤ 8 ∧ i = .int .i64 k ∧ Blk wr w.heap.size 31 (C8 fun j => if j < k then E j else r j) ∧ Blk wr (w.heap.size + 1) 31 (C8 fun _ => 0) ∧ Fr w.heap.size [] w wr) (fun i _ => 8 - (intOf i).toNat)
    case atStart =>
      exact ⟨0, by omega, rfl, (Blk.new _ _ _).alloc _, HBK.out w, ((Fr.refl _ _ _).alloc (Nat.le_refl _) _).alloc (by simp) _⟩
    case round =>
      obtain ⟨k, hk, rfl, hb, hb0, hfr⟩ := hrel
      have HF := Lib.hid hfr
      have HB0 := Lib.hid hb0
      clear hfr hb0
      by_cases hlt : k < 8
      · have hc := hb.cell k
        rw [C8_get _ hlt] at hc
        simp only [Nat.lt_irrefl, if_false] at hc
        have hz := hb.frozen k
        have HB := Lib.hid hb
        have hcon := contains_any A n c w.heap.size xs k wr (HR.out.frL HF.out (Nat.le_refl _) (by simp)) hn
        have HC := Lib.hid hcon
        clear hb hcon
        have e2 := HE.out k
        by_cases hh : hasI xs k = true
        · rw [hh] at HC
          rw [if_pos hh] at e2
          have E2 := Lib.hid e2
          clear e2 hh
          go_wp2_with (go_at_call 62; refine HC.out.mono ?_; rintro e w' ⟨rfl, rfl⟩)
          go_roundw
          case rel =>
            refine ⟨k + 1, by omega, by go_num, ?_, HB0.out.far (by simp) _, HF.out.setCell (.inl (by simp)) _⟩
            have h := blk_set1 HB.out hlt to
            rw [C8_congr (r' := fun j => if j < k + 1 then E j else r j)] at h
            · exact h
            · intro j _
              by_cases h1 : j = k
              · subst h1; simp [E2.out]
              · have : (j < k + 1) = (j < k) := by simp; omega
                simp [h1, this]
          case measure => simp [intOf]; omega
        · have hh' : hasI xs k = false := by simpa using hh
          rw [hh'] at HC
          rw [if_neg hh] at e2
          have E2 := Lib.hid e2
          clear e2 hh hh'
          go_wp2_with (go_at_call 62; refine HC.out.mono ?_; rintro e w' ⟨rfl, rfl⟩)
          go_roundw
          case rel =>
            refine ⟨k + 1, by omega, by go_num, ?_, HB0.out, HF.out⟩
            have h := HB.out
            rw [C8_congr (r' := fun j => if j < k + 1 then E j else r j)] at h
            · exact h
            · intro j _
              by_cases h1 : j = k
              · subst h1; simp [E2.out]
              · have : (j < k + 1) = (j < k) := by simp; omega
                simp [this]
          case measure => simp [intOf]; omega
      · obtain rfl : k = 8 := by omega
        have e1 : (C8 fun j => if j < 8 then E j else r j) = C8 E := C8_congr fun j hj => by simp [hj]
        rw [e1] at hb
        have h0 := hb.cell 0
        have h1 := hb.cell 1
        have h2 := hb.cell 2
        have h3 := hb.cell 3
        have h4 := hb.cell 4
        have h5 := hb.cell 5
        have h6 := hb.cell 6
        have h7 := hb.cell 7
        have b0 := HB0.out.cell 0
        have b1 := HB0.out.cell 1
        have b2 := HB0.out.cell 2
        have b3 := HB0.out.cell 3
        have b4 := HB0.out.cell 4
        have b5 := HB0.out.cell 5
        have b6 := HB0.out.cell 6
        have b7 := HB0.out.cell 7
        have z0 := HB0.out.frozen 0
        have z1 := HB0.out.frozen 1
        have z2 := HB0.out.frozen 2
        have z3 := HB0.out.frozen 3
        have z4 := HB0.out.frozen 4
        have z5 := HB0.out.frozen 5
        have z6 := HB0.out.frozen 6
        have z7 := HB0.out.frozen 7
        go_wp2_with fail
        exact bodyPost_ret (results_cell_row rfl _ _ (w.heap.size + 1) 31 (C8 E) (0, 0) _ rfl (blk_set8 HB0.out E) Try.underlying31 rfl (by kernel_rfl)) rfl ⟨rfl, fr_set8 HF.out (.inl (by simp)) E⟩

/-- What a text's bytes say of a route. -/
def parseR (s : ByteArray) (k : Nat) : Int := (bl s).getD k 0 - 48
theorem bl_get {s : ByteArray} {k : Nat} (h : k < s.size) : (bl s)[k]? = some (s[k].toNat : Int) := by
  have hkd : k < s.data.size := h
  unfold bl
  rw [List.getElem?_map, List.getElem?_eq_getElem (by rw [Array.length_toList]; exact hkd)]
  rfl
theorem parseR_get {s : ByteArray} {k : Nat} (h : k < s.size) : parseR s k = (s[k].toNat : Int) - 48 := by
  unfold parseR
  rw [List.getD_eq_getElem?_getD, bl_get h]
  rfl
def parseOk (s : ByteArray) : Bool := decide (s.size = 8) && right8 3 (parseR s)
def ParseOut (s : ByteArray) (w : World) (e : Ending) (w' : World) : Prop :=
  e = .returned (.tuple #[A8 (if parseOk s = true then parseR s else fun _ => 0), .int .i64 (if parseOk s = true then 0 else 4)]) ∧ Fr w.heap.size [] w w'
set_option maxRecDepth 100000 in
set_option maxHeartbeats 1000000 in
theorem parse_any (s : ByteArray) (w : World) (hm : s.size ≤ maxLen) : Calls Try.prog 40 #[.string s] w (ParseOut s w) := by
  unfold maxLen at hm
  have hblk : ∀ w : World, Blk ((w.alloc (.cells (C8 fun _ => 0) 31)).alloc (.cells (C8 fun _ => 0) 31)) (w.heap.size + 1) 31 (C8 fun _ => 0) := fun w => by
    have h := Blk.new (w.alloc (.cells (C8 fun _ => 0) 31)) 31 (C8 fun _ => 0)
    rwa [show (w.alloc (.cells (C8 fun _ => 0) 31)).heap.size = w.heap.size + 1 by simp] at h
  have HBK := Lib.hid hblk
  clear hblk
  by_cases hs : s.size = 8
  case neg =>
    have hp : parseOk s = false := by simp [parseOk, hs]
    have hne : ((s.size : Int) != 8) = true := by rw [bne_iff_ne]; omega
    have HP := Lib.hid hp
    clear hp hs
    go_enter Try.func40, Try.ntmps40
    go_wp2_with fail
    refine bodyPost_ret (results_cell_row_tmp rfl _ _ w.heap.size 31 (C8 fun _ => 0) (0, 0) _ rfl ((Blk.new _ _ _).alloc _) Try.underlying31 rfl (by kernel_rfl)) rfl ⟨?_, ((Fr.refl _ _ _).alloc (Nat.le_refl _) _).alloc (by simp) _⟩
    rw [HP.out]; rfl
  obtain ⟨E, hE⟩ : ∃ E, E = parseR s := ⟨_, rfl⟩
  have HE : RowKit.Hid (∀ k : Nat, (h : k < s.size) → E k = (s[k].toNat : Int) - 48) := fun k h => by rw [hE, parseR_get h]
  have hok : parseOk s = right8 3 E := by rw [hE]; simp [parseOk, hs]
  have HOK := Lib.hid hok
  have HEE := Lib.hid hE
  have hs1 : s.size ≤ 8 := by omega
  have hs2 : 8 ≤ s.size := by omega
  clear hE hok hs
  have hne : ((s.size : Int) != 8) = false := by rw [bne_eq_false_iff_eq]; omega
  go_enter Try.func40, Try.ntmps40
  go_wp2_with fail
  go_loopw [10] (fun i wr => ∃ k : Nat, k ≤ 8 ∧ i = .int .i64 k ∧ Blk wr (w.heap.size + 1) 31 (C8 fun j => if j < k then E j else 0) ∧ Blk wr w.heap.size 31 (C8 fun _ => 0) ∧ Fr w.heap.size [] w wr) (fun i _ => 8 - (intOf i).toNat)
  case atStart => exact ⟨0, by omega, rfl, HBK.out w, (Blk.new _ _ _).alloc _, ((Fr.refl _ _ _).alloc (Nat.le_refl _) _).alloc (by simp) _⟩
  case round =>
    obtain ⟨k, hk, rfl, hb, hb0, hfr⟩ := hrel
    have HF := Lib.hid hfr
    have HB0 := Lib.hid hb0
    clear hfr hb0
    by_cases hlt : k < 8
    · have hks : k < s.size := by omega
      have hc := hb.cell k
      rw [C8_get _ hlt] at hc
      have hz := hb.frozen k
      have HB := Lib.hid hb
      clear hb
      obtain ⟨hx1, hx2⟩ := bl_range s _ (List.mem_of_getElem? (bl_get hks))
      go_wp2_with fail
      go_roundw
      case rel =>
        refine ⟨k + 1, by omega, by go_num, ?_, HB0.out.far (by simp) _, HF.out.setCell (.inl (by simp)) _⟩
        have h := blk_set1 HB.out hlt (E k)
        rw [C8_congr (r' := fun j => if j < k + 1 then E j else 0), HE.out k hks] at h
        · exact h
        · intro j _
          by_cases h1 : j = k
          · subst h1; simp
          · have : (j < k + 1) = (j < k) := by simp; omega
            simp [h1, this]
      case measure => simp [intOf]; omega
    · obtain rfl : k = 8 := by omega
      have e1 : (C8 fun j => if j < 8 then E j else 0) = C8 E := C8_congr fun j hj => by simp [hj]
      rw [e1] at hb
      have hr := right_any 3 E wr
      have HR := Lib.hid hr
      have HB := Lib.hid hb
      have hsz := HF.out.size
      have h0 := hb.cell 0
      have h1 := hb.cell 1
      have h2 := hb.cell 2
      have h3 := hb.cell 3
      have h4 := hb.cell 4
      have h5 := hb.cell 5
      have h6 := hb.cell 6
      have h7 := hb.cell 7
      clear hr hb
      go_wp2_with fail
      refine HR.out.mono ?_
      rintro e w1 ⟨rfl, hf1⟩
      have hb1 := HB0.out.fr hf1 HB0.out.lt (by simp)
      have hb2 := HB.out.fr hf1 HB.out.lt (by simp)
      have HF1 := Lib.hid (HF.out.trans (hf1.mono (B' := w.heap.size) (by omega) (by simp)))
      have HB1 := Lib.hid hb1
      clear h0 h1 h2 h3 h4 h5 h6 h7 hf1
      have b0 := hb1.cell 0
      have b1 := hb1.cell 1
      have b2 := hb1.cell 2
      have b3 := hb1.cell 3
      have b4 := hb1.cell 4
      have b5 := hb1.cell 5
      have b6 := hb1.cell 6
      have b7 := hb1.cell 7
      have z0 := hb1.frozen 0
      have z1 := hb1.frozen 1
      have z2 := hb1.frozen 2
      have z3 := hb1.frozen 3
      have z4 := hb1.frozen 4
      have z5 := hb1.frozen 5
      have z6 := hb1.frozen 6
      have z7 := hb1.frozen 7
      have h0 := hb2.cell 0
      have h1 := hb2.cell 1
      have h2 := hb2.cell 2
      have h3 := hb2.cell 3
      have h4 := hb2.cell 4
      have h5 := hb2.cell 5
      have h6 := hb2.cell 6
      have h7 := hb2.cell 7
      clear hb1 hb2
      cases hv : right8 3 E
      case false =>
        have HV := Lib.hid hv
        clear hv
        go_wp2_with fail
        refine bodyPost_ret (results_cell_row_tmp rfl _ _ w.heap.size 31 (C8 fun _ => 0) (0, 0) _ rfl (blk_set8 HB1.out fun _ => 0) Try.underlying31 rfl (by kernel_rfl)) rfl ⟨?_, fr_set8 HF1.out (.inl (Nat.le_refl _)) fun _ => 0⟩
        rw [HOK.out, HV.out]; rfl
      case true =>
        have HV := Lib.hid hv
        clear hv
        go_wp2_with fail
        refine bodyPost_ret (results_cell_row_tmp rfl _ _ w.heap.size 31 (C8 E) (0, 0) _ rfl (blk_set8 HB1.out E) Try.underlying31 rfl (by kernel_rfl)) rfl ⟨?_, fr_set8 HF1.out (.inl (Nat.le_refl _)) E⟩
        rw [HOK.out, HV.out, HEE.out]; rfl

theorem right_even2 : right8 2 (evenR 2) = true := by decide
theorem digits_even2 : (strOfNums (digits (evenR 2) 8)).toList = [48, 48, 48, 48, 49, 49, 49, 49] := by
  rw [ByteArray.toList_eq, strOfNums_data]; rfl
theorem awake09 (w : World) : Calls Try.prog 18 #[] w fun e w' => e = .returned (.bool true) ∧ Below w.heap.size w w' := by
  have hd := digits_even2
  have ht := fun w => text_yes (evenR 2) w (by decide)
  have hr := fun w => right_any 2 (evenR 2) w
  rw [right_even2] at hr
  generalize strOfNums (digits (evenR 2) 8) = sx at *
  have HT := Lib.hid ht
  have HR := Lib.hid hr
  have hd' : (sx.toList == [48, 48, 48, 48, 49, 49, 49, 49]) = true := by rw [hd]; rfl
  clear hd ht hr
  go_enter Try.func18, Try.ntmps18
  go_wp2_with fail
  refine (even_any 2 _).mono ?_
  rintro e w1 ⟨rfl, f1⟩
  go_wp2_with fail
  refine (HT.out _).mono ?_
  rintro e w2 ⟨rfl, f2⟩
  go_wp2_with fail
  refine (even_any 2 _).mono ?_
  rintro e w3 ⟨rfl, f3⟩
  go_wp2_with fail
  refine (HR.out _).mono ?_
  rintro e w4 ⟨rfl, f4⟩
  have hb := ((f1.trans (f2.mono f1.size (by simp))).trans (f3.mono (Nat.le_trans f1.size f2.size) (by simp))).trans (f4.mono (Nat.le_trans f1.size (Nat.le_trans f2.size f3.size)) (by simp))
  have HB := Lib.hid hb
  clear f1 f2 f3 f4 hb
  go_wp2_with fail
  go_ret
  exact ⟨rfl, HB.out.below⟩
end Go.Proofs.Ytkmkdodhahcpdaa
