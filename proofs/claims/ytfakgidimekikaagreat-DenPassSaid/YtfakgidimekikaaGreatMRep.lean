/- Texts merged into one, for the number of files a claim may have: Repeat. -/
import Derived.Test.YtfakgidimekikaaGreatMA
import Derived.Deep.DeepCutAuto
import Derived.Laws.CopyOwn
import Derived.Deep.RegionLaw
namespace Go.Proofs.YtfakgidimekikaaGreat
open Go.RowKit Go.Fb
/-- The cells of n ints. -/
def intsA (n : Nat) (D : Nat → Int) : Array Value := ((List.range n).map fun k => Value.int .i64 (D k)).toArray
theorem intsA_get {n k : Nat} (D : Nat → Int) (h : k < n) : (intsA n D)[k]? = some (.int .i64 (D k)) := by simp [intsA, h]
theorem intsA_size (n : Nat) (D : Nat → Int) : (intsA n D).size = n := by simp [intsA]
theorem intsA_set {n k : Nat} (D : Nat → Int) (u : Int) : (intsA n D).setIfInBounds k (.int .i64 u) = intsA n (fun j => if j = k then u else D j) := by
  apply Array.ext_getElem?
  intro i
  rw [Array.getElem?_setIfInBounds]
  by_cases hi : i < n
  · by_cases e : k = i
    · subst e; simp [intsA, hi]
    · have e' : ¬ i = k := fun h => e h.symm
      simp [intsA, hi, e, e']
  · by_cases e : k = i
    · subst e; simp [intsA, hi]
    · simp [intsA, hi, e]
theorem intsA_congr {n : Nat} {D D' : Nat → Int} (h : ∀ k, k < n → D k = D' k) : intsA n D = intsA n D' := by
  unfold intsA
  congr 1
  apply List.map_congr_left
  intro k hk
  rw [h k (by simpa using hk)]
theorem intszero (n : Nat) : intsA n (fun _ => 0) = Array.replicate n (.int .i64 0) := by
  apply Array.ext_getElem?
  intro i
  by_cases hi : i < n <;> simp [intsA, hi]
/-- The first m laid, the others nought. -/
def repD (v : Int) (m : Nat) (k : Nat) : Int := if k < m then v else 0
theorem rep_copy (v : Int) (n m c : Nat) (h : m + c ≤ n) :
    ((intsA n (repD v m)).toList.take m ++ (List.replicate c (Value.int .i64 v) ++ (intsA n (repD v m)).toList.drop (m + (List.replicate c (Value.int .i64 v)).length))).toArray = intsA n (repD v (m + c)) := by
  apply Array.ext_getElem?
  intro i
  rw [List.length_replicate]
  simp only [intsA, List.getElem?_toArray, List.getElem?_append, List.length_take, List.length_map, List.length_range, List.length_replicate, List.getElem?_take, List.getElem?_map, List.getElem?_drop]
  by_cases h1 : i < m
  · rw [if_pos (by omega), if_pos h1]
    simp [show i < n by omega, repD, h1, show i < m + c by omega]
  · rw [if_neg (by omega)]
    by_cases h2 : i < m + c
    · rw [if_pos (by omega)]
      simp [show i - min m n < c by omega, show i < n by omega, repD, h2]
    · rw [if_neg (by omega), show m + c + (i - min m n - c) = i by omega]
      by_cases h3 : i < n
      · simp [h3, repD, h1, h2]
      · simp [h3]
theorem make_intsA (n : Nat) (h : n ≤ 64) (W : World) : (Instr.makeSlice 46 (.int .i64 (n : Int)) (.int .i64 (n : Int))).run Tryz.prog W = .ok (.slice (some ⟨W.heap.size, 0, none⟩) n n) (W.alloc (.cells (intsA n (fun _ => 0)) 3)) := by
  have info : (Tryz.prog.info? 3).map (fun i => (i.zero, i.size, i.bytes)) = some (some (Value.int .i64 0), 1, 8) := by kernel_rfl
  obtain ⟨i, hi, hz, hsz, hby⟩ := info_parts info
  have hr := run_make (P := Tryz.prog) W 46 3 i (.int .i64 0) Tryz.underlying46 hi hz .i64 .i64 n n (by omega) (by omega) (by rw [hby]; omega) (by omega)
  simp only [Int.toNat_natCast] at hr
  have hmc : madeCells (Value.int .i64 0).cells (n * i.size) = intsA n (fun _ => 0) := by
    rw [hsz, Nat.mul_one]
    apply Array.ext
    · simp [size_madeCells, intsA]
    · intro j h1 h2
      simp [madeCells, Value.cells, Nat.mod_one, intsA]
  rw [hmc] at hr
  exact hr
theorem rep_run (v : Int) (W : World) (g n m c dLen dCap sLen sCap : Nat) (ad : Addr) (hb : Blk W g 3 (intsA n (repD v m))) (hc : c = Nat.min sLen dLen) (hfit : m + c ≤ n) (hsrc : ∀ j, j < c → W.cell? (ad.add j) = some (.int .i64 v)) :
    (Builtin.copy_ #[46, 46] 3 #[.slice (some ⟨g, m, none⟩) dLen dCap, .slice (some ad) sLen sCap]).run Tryz.prog W = .ok (.int .i64 c) (W.setRow g (intsA n (repD v (m + c)))) := by
  have h := run_copy_row (P := Tryz.prog) W 46 46 3 3 g m dLen dCap ad sLen sCap (intsA n (repD v m)) 3 (List.replicate c (.int .i64 v)) Tryz.underlying46 (by kernel_rfl) hb (by simpa using hc) (fun j u hu => by
    have hj : j < c := by
      rcases Nat.lt_or_ge j c with h | h
      · exact h
      · rw [List.getElem?_eq_none (by simpa using h)] at hu; cases hu
    rw [List.getElem?_replicate_of_lt hj] at hu
    injection hu with hu
    rw [← hu]
    exact hsrc j hj) (by rw [intsA_size, List.length_replicate]; exact hfit) (by simp [Value.oneCell'])
  rw [List.append_assoc, rep_copy v n m c hfit, List.length_replicate] at h
  exact h
/-- What Repeat leaves: a row of n equal ints in the next block. -/
def RepOut (v : Int) (n : Nat) (w : World) (e : Ending) (w' : World) : Prop :=
  e = .returned (.slice (some ⟨w.heap.size, 0, none⟩) n n) ∧ Blk w' w.heap.size 3 (intsA n fun _ => v) ∧ Fr w.heap.size [] w w'
set_option maxRecDepth 100000 in
theorem repeat_zero (v : Int) (b : Nat) (w : World) :
    Calls Tryz.prog 180 #[.slice (some ⟨b, 0, none⟩) 1 1, .int .i64 0] w (RepOut v 0 w) := by
  have HM := Lib.hid (mul_any 0 (by omega))
  have hmk : ∀ W : World, (Instr.makeSlice 46 (.int .i64 0) (.int .i64 0)).run Tryz.prog W = .ok (.slice (some ⟨W.heap.size, 0, none⟩) 0 0) (W.alloc (.cells (intsA 0 (fun _ => 0)) 3)) := fun W => make_intsA 0 (by omega) W
  have hrun : (Builtin.copy_ #[46, 46] 3 #[.slice (some ⟨w.heap.size, 0, none⟩) 0 0, .slice (some ⟨b, 0, none⟩) 1 1]).run Tryz.prog (w.alloc (.cells (intsA 0 fun _ => 0) 3)) = .ok (.int .i64 0) (w.alloc (.cells (intsA 0 fun _ => 0) 3)) :=
    run_copy_none (P := Tryz.prog) _ 46 46 3 3 _ _ 0 0 1 1 Tryz.underlying46 (by kernel_rfl) rfl
  go_enter Tryz.func180, Tryz.ntmps180
  go_wp2_with fail
  refine (HM.out _).mono ?_
  rintro e w' ⟨rfl, rfl⟩
  go_wp2_with fail
  go_loop [8] (fun i => i = .int .i64 0) (fun _ => 0)
  case atStart => rfl
  case round =>
    subst hrel
    go_wp2_with fail
    go_ret
    exact ⟨rfl, Blk.new _ _ _, (Fr.refl _ _ _).alloc (Nat.le_refl _) _⟩
set_option maxRecDepth 100000 in
set_option maxHeartbeats 1000000 in
theorem repeat_any (v : Int) (n b : Nat) (hn : n ≤ 24) (w : World) (hb : b < w.heap.size) (hc : w.cell? ⟨b, 0, none⟩ = some (.int .i64 v)) :
    Calls Tryz.prog 180 #[.slice (some ⟨b, 0, none⟩) 1 1, .int .i64 n] w (RepOut v n w) := by
  by_cases h0 : n = 0
  · subst h0; exact repeat_zero v b w
  have HM := Lib.hid (mul_any n hn)
  have hmk := fun W => make_intsA n (by omega) W
  have hd : decide ((n : Int) < 0) = false := decide_eq_false (by omega)
  go_enter Tryz.func180, Tryz.ntmps180
  go_wp2_with fail
  refine (HM.out _).mono ?_
  rintro e w' ⟨rfl, rfl⟩
  go_upto_region 7 with fail
  · have h1 : (1 : Int) ≤ n := by omega
    have B1 := Blk.new w 3 (intsA n (fun _ => 0))
    have hrun : (Builtin.copy_ #[46, 46] 3 #[.slice (some ⟨w.heap.size, 0, none⟩) n n, .slice (some ⟨b, 0, none⟩) 1 1]).run Tryz.prog (w.alloc (.cells (intsA n fun _ => 0) 3)) = .ok (.int .i64 1) ((w.alloc (.cells (intsA n fun _ => 0) 3)).setRow w.heap.size (intsA n (repD v 1))) := by
      have h := rep_run v (w.alloc (.cells (intsA n fun _ => 0) 3)) w.heap.size n 0 1 n n 1 1 ⟨b, 0, none⟩ B1 (Nat.min_eq_left (by omega)).symm (by omega) (fun j hj => by
        obtain rfl : j = 0 := by omega
        show (w.alloc _).cell? ⟨b, 0, none⟩ = _
        rw [← hc]
        exact World.cell?_of_block (Below.heap_alloc _ _ _ hb))
      exact h
    have B2 : RowKit.Hid (Blk ((w.alloc (.cells (intsA n fun _ => 0) 3)).setRow w.heap.size (intsA n (repD v 1))) w.heap.size 3 (intsA n (repD v 1))) := setRow_heap _ _ _ _ _ _ B1
    have F2 : RowKit.Hid (Below w.heap.size w ((w.alloc (.cells (intsA n fun _ => 0) 3)).setRow w.heap.size (intsA n (repD v 1)))) := below_setRow ((Below.refl _ _).alloc (Nat.le_refl _) _) (Nat.le_refl _) _
    clear B1
    go_wp2_with fail
    generalize (w.alloc _).setRow _ _ = w2 at *
    clear hrun
    go_loopw [8] (fun i wr => ∃ m : Nat, 1 ≤ m ∧ m ≤ n ∧ i = .int .i64 m ∧ RowKit.Hid (Blk wr w.heap.size 3 (intsA n (repD v m))) ∧ RowKit.Hid (Below w.heap.size w wr)) (fun i _ => n - (intOf i).toNat)
    case atStart => exact ⟨1, Nat.le_refl _, by omega, rfl, B2, F2⟩
    case round =>
      clear B2 F2
      obtain ⟨m, hm1, hmn, rfl, BR, FR⟩ := hrel
      by_cases hlt : m < n
      · have hmi : (m : Int) < (n : Int) := by omega
        obtain ⟨c, hcv⟩ : ∃ c, c = Nat.min m (n - m) := ⟨_, rfl⟩
        have hc1 : 1 ≤ c := by rw [hcv]; show 1 ≤ min m (n - m); omega
        have hc2 : m + c ≤ n := by rw [hcv]; show m + min m (n - m) ≤ n; omega
        have HCV := Lib.hid hcv
        clear hcv
        have hw1 : IntKind.i64.wrap ((m : Int) + c) = ((m + c : Nat) : Int) := by rw [IntKind.wrap_i64]; omega
        have hnm : ¬ n = m := by omega
        have hrun2 := rep_run v wr.drew w.heap.size n m c (n - m) (n - m) m n ⟨w.heap.size, 0, none⟩ BR.out.drew (by rw [HCV.out]) hc2 (fun j hj => by
          have hj2 : j < m := by have := HCV.out; have h3 : c ≤ m := by rw [this]; exact Nat.min_le_left _ _
                                 omega
          have e : (⟨w.heap.size, 0, none⟩ : Addr).add j = ⟨w.heap.size, j, none⟩ := by unfold Addr.add; split <;> simp_all
          rw [e, BR.out.drew.cell j, intsA_get _ (by omega)]
          simp [repD, hj2])
        have B2 : RowKit.Hid (Blk (wr.drew.setRow w.heap.size (intsA n (repD v (m + c)))) w.heap.size 3 (intsA n (repD v (m + c)))) := setRow_heap _ _ _ _ _ _ BR.out.drew
        have F2 : RowKit.Hid (Below w.heap.size w (wr.drew.setRow w.heap.size (intsA n (repD v (m + c))))) := below_setRow FR.out.drew (Nat.le_refl _) _
        clear BR FR
        generalize hw3 : wr.drew.setRow w.heap.size (intsA n (repD v (m + c))) = w3 at *
        clear hw3
        go_upto_region 9 with fail
        go_region
        all_goals
          go_wp2_with fail
          go_roundw
          case rel => exact ⟨m + c, by omega, by omega, by go_num, B2.out, F2.out⟩
          case measure => simp [intOf]; omega
      · obtain rfl : n = m := by omega
        go_wp2_with fail
        go_ret
        exact ⟨rfl, (by rw [← intsA_congr (D := repD v n) (fun k hk => by unfold repD; rw [if_pos hk])]; exact BR.out), Fr.of_below FR.out⟩
end Go.Proofs.YtfakgidimekikaaGreat
