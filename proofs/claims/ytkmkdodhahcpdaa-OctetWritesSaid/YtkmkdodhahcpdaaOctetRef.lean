/- The contracts of the references of layer 1, and of the writer's Text. -/
import Derived.Test.YtkmkdodhahcpdaaReader
namespace Go.Proofs.Ytkmkdodhahcpdaa
open Go.RowKit Go.Fb

theorem wtext_nil (s : ByteArray) (w : World) : Calls Try.prog 51 #[.pointer none, .string s] w fun e w' => e = .returned (.int .i64 1) ∧ w = w' := by
  go_enter Try.func51, Try.ntmps51
  go_wp2_with fail
  go_ret
  exact ⟨rfl, rfl⟩

set_option maxRecDepth 100000 in
theorem wtext_any (base g : Nat) (s : ByteArray) (bs : List Int) (w : World) (hs : s.size ≤ 1048576) (hbs : bs.length ≤ 8000000) (hw : Wr base w g bs) (hbase : base ≤ w.heap.size) :
    Calls Try.prog 51 #[.pointer (some ⟨g, 0, none⟩), .string s] w fun e w' =>
      e = .returned (.int .i64 0) ∧ Wr base w' g (bs ++ (be s.size ++ bl s)) ∧ Fr base [g] w w' := by
  obtain ⟨i, hi, hz, hsz, hby⟩ := info_parts u8info
  have hgl : g < w.heap.size := by obtain ⟨_, h, _⟩ := hw; exact h.lt
  go_enter Try.func51, Try.ntmps51
  go_wp2_with fail
  refine (num_any base g _ 1 1 (w.heap.size + 1) [(s.size : Int)] bs _ (by omega) (by omega) (hw.fr ((Fr.refl w.heap.size [] w).alloc (Nat.le_refl _) _) hgl (Nat.le_refl _) (by simp)) (by simp; omega) (Reads.of_blk (Blk.new _ _ _) rfl) (by simp) ?_).mono ?_
  · rintro - ad e
    injection e with e
    subst e
    exact hw.apart_new ((Fr.refl _ _ _).alloc (Nat.le_refl _) _)
  rintro e w1 (⟨_, rfl, hw1, hf1⟩ | ⟨h, _⟩)
  · have hf2 : Fr base [g] w w1 := ((Fr.refl _ _ w).alloc hbase _).trans hf1
    have hbase1 : base ≤ w1.heap.size := Nat.le_trans hbase hf2.size
    have Hf := Lib.hid hf2
    obtain ⟨sv, hblk, hown⟩ := hw1
    rw [show [(s.size : Int)].flatMap be = be s.size by simp] at hown
    obtain ⟨n, hn⟩ : ∃ n, n = (bs ++ be s.size).length := ⟨_, rfl⟩
    rw [← hn] at hown
    have hnb : n ≤ 9000000 := by rw [hn, List.length_append, be_length]; omega
    have Hn := Lib.hid hn
    have hc := hblk.cell 0
    have hne : some g ≠ sv.ownBlock := Blk.ne_own hblk hown (by decide)
    clear hw hf1 hf2 hn
    go_wp2_with (at_builtin; refine Lib.wpList_append_own_string _ rfl (.tmp 21) (.tmp 22) _ _ rfl base 5 i Try.underlying24 Try.underlying9 hi hz hsz hby sv _ _ rfl hown s rfl (by unfold maxLen; omega) (by omega) hbase1 ?_; intro v1 w2 hown1 hg1 hat1; have hblk1 : Blk w2 g 26 #[sv] := hblk.grown hg1 hne; have hc1 := hblk1.cell 0; have hz1 := hblk1.frozen 0; obtain ⟨A1, c1, hv1, _⟩ := ownsRow_shape hown1; rw [hv1])
    go_ret
    have hcells : Lib.strCells s = (bl s).map (Value.int .u8) := by simp [Lib.strCells, bl, Function.comp_def]
    refine ⟨rfl, ⟨_, hblk1.set_ 0 _, ?_⟩, (Hf.out.trans ((Fr.refl base [] w1).grown hg1 hbase1 (fun k hk => .inl (hown.lt k hk).1) |>.mono (Nat.le_refl _) (by simp))).setCell (.inr (by simp)) _⟩
    have h1 : (bs ++ (be s.size ++ bl s)).length = n + s.size := by rw [Hn.out, ← List.append_assoc, List.length_append, bl_length]
    have h2 : (bs ++ (be s.size ++ bl s)).map (Value.int .u8) = (bs ++ be s.size).map (Value.int .u8) ++ Lib.strCells s := by rw [hcells, ← List.append_assoc, List.map_append (l₁ := bs ++ be s.size)]
    rw [h1, h2]
    rw [hv1] at hown1
    exact ownsRow_setCell_other hown1 (fun e => Blk.ne_own hblk1 hown1 (by decide) e.symm) _
  · exact absurd h (by simp [fitsB]; omega)

theorem is_any (n : Int) (w : World) : Calls Try.prog 53 #[.int .i64 n] w fun e w' => e = .returned (.bool (fitsB n)) ∧ w = w' := by
  by_cases h : -2147483648 ≤ n
  · by_cases h' : n ≤ 2147483647
    · go_enter Try.func53, Try.ntmps53
      go_wp2
      go_ret
      exact ⟨by simp [fitsB, h, h'], rfl⟩
    · go_enter Try.func53, Try.ntmps53
      go_wp2
      go_ret
      exact ⟨by simp [fitsB, h'], rfl⟩
  · go_enter Try.func53, Try.ntmps53
    go_wp2
    go_ret
    exact ⟨by simp [fitsB]; omega, rfl⟩

theorem conv4 (a b c d : Int) (w : World) : (convert 24 9 (.slice (some ⟨w.heap.size, 0, none⟩) 4 4)).run Try.prog (w.alloc (.cells #[.int .u8 a, .int .u8 b, .int .u8 c, .int .u8 d] 5)) = .ok (.string (strOfNums [a, b, c, d])) (w.alloc (.cells #[.int .u8 a, .int .u8 b, .int .u8 c, .int .u8 d] 5)) := by
  have hb := Blk.new w 5 #[.int .u8 a, .int .u8 b, .int .u8 c, .int .u8 d]
  refine run_convert_bytes_arg _ _ _ Try.underlying24 Try.underlying5 _ 0 4 4 [a, b, c, d] rfl (fun i hi => ?_) _ Try.underlying9
  rw [hb.cell]
  match i, hi with
  | 0, _ => rfl
  | 1, _ => rfl
  | 2, _ => rfl
  | 3, _ => rfl

/-- Some string of four bytes; of a number that fits, its bytes. -/
def PutOut (n : Int) (w : World) (e : Ending) (w' : World) : Prop := ∃ s : ByteArray, e = .returned (.string s) ∧ s.size = 4 ∧ (fitsB n = true → s = strOfNums (be n)) ∧ Fr w.heap.size [] w w'
theorem put_any (n : Int) (w : World) (h1 : -9223372036854775808 ≤ n) (h2 : n ≤ 9223372036854775807) : Calls Try.prog 54 #[.int .i64 n] w (PutOut n w) := by
  have hcv := fun a b c d => conv4 a b c d w
  by_cases hf : fitsB n = true
  · obtain ⟨g1, g2⟩ : -2147483648 ≤ n ∧ n ≤ 2147483647 := of_decide_eq_true hf
    have Hf := Lib.hid hf
    clear hf h1 h2
    by_cases hn : n < 0
    · go_enter Try.func54, Try.ntmps54
      go_wp2_with fail
      go_ret
      refine ⟨_, rfl, by rw [strOfNums_size]; rfl, fun _ => ?_, (Fr.refl _ _ _).alloc (Nat.le_refl _) _⟩
      congr 1
      simp only [be, List.cons.injEq, and_true]
      omega
    · go_enter Try.func54, Try.ntmps54
      go_wp2_with fail
      go_ret
      refine ⟨_, rfl, by rw [strOfNums_size]; rfl, fun _ => ?_, (Fr.refl _ _ _).alloc (Nat.le_refl _) _⟩
      congr 1
      simp only [be, List.cons.injEq, and_true]
      omega
  · by_cases hn : n < 0
    all_goals
      go_enter Try.func54, Try.ntmps54
      go_wp2_with fail
      go_ret
      exact ⟨_, rfl, by rw [strOfNums_size]; rfl, fun h => absurd h hf, (Fr.refl _ _ _).alloc (Nat.le_refl _) _⟩

set_option maxRecDepth 100000 in
theorem get_any (s : ByteArray) (w : World) (hm : s.size ≤ maxLen) : Calls Try.prog 45 #[.string s] w fun e w' =>
    e = .returned (.tuple #[.int .i64 (if s.size < 4 then 0 else numOf s), .bool (decide (4 ≤ s.size))]) ∧ w = w' := by
  unfold maxLen at hm
  by_cases hs : s.size < 4
  · have hd : decide (4 ≤ s.size) = false := by simp; omega
    rw [if_pos hs, hd]
    clear hd
    go_enter Try.func45, Try.ntmps45
    go_wp2_with fail
    go_ret2
    exact ⟨rfl, rfl⟩
  · have hd : decide (4 ≤ s.size) = true := by simp; omega
    rw [if_neg hs, hd]
    clear hd
    go_enter Try.func45, Try.ntmps45
    go_wp2_with fail
    go_loop [4, 5] (fun u i => ∃ k : Nat, k ≤ 4 ∧ i = .int .i64 k ∧ u = .int .i64 (fourU (bl s) k)) (fun _ i => 4 - (intOf i).toNat)
    case atStart => exact ⟨0, by omega, rfl, rfl⟩
    case round =>
      obtain ⟨k, hk, rfl, rfl⟩ := hrel
      obtain ⟨h0, h1, h2⟩ := fourU_bound (bl_range s) k
      have h2' := h2 hk
      by_cases hlt : k < 4
      · have hks : k < s.size := by omega
        have hkd : k < s.data.size := hks
        have hx : (bl s)[k]? = some (s[k].toNat : Int) := by
          unfold bl
          rw [List.getElem?_map, List.getElem?_eq_getElem (by rw [Array.length_toList]; exact hkd)]
          rfl
        have h1' := h1 (by omega)
        obtain ⟨hx1, hx2⟩ := bl_range s _ (List.mem_of_getElem? hx)
        have hn := fourU_succ (bl s) k hx
        have HN := Lib.hid hn
        clear hn hx h1 h2 h2'
        generalize hU : fourU (bl s) k = U at *
        have HU := Lib.hid hU
        clear hU
        go_wp2_with fail
        go_round
        case rel => exact ⟨k + 1, by omega, by go_num, by rw [HN.out]; go_num⟩
        case measure => simp [intOf]; omega
      · obtain rfl : k = 4 := by omega
        have hN : numOf s = fourI (fourU (bl s) 4) := rfl
        clear h1 h2
        generalize fourU (bl s) 4 = U at *
        have HN := Lib.hid hN
        clear hN
        by_cases hU : U < 2147483648
        · go_wp2_with fail
          go_ret2
          have hv : numOf s = U := by rw [HN.out, fourI, if_pos hU]
          refine ⟨?_, rfl⟩
          rw [hv]; rfl
        · go_wp2_with fail
          go_ret2
          have hv : numOf s = U - 4294967296 := by rw [HN.out, fourI, if_neg (by omega)]
          refine ⟨?_, rfl⟩
          rw [hv]; rfl

theorem bl_empty : bl ByteArray.empty = [] := by
  have := bl_length ByteArray.empty
  exact List.eq_nil_of_length_eq_zero this

theorem reftext_any (s : ByteArray) (w : World) (hm : s.size ≤ 1000000) : Calls Try.prog 55 #[.string s] w fun e w' =>
    e = .returned (.string (strOfNums (be s.size) ++ s)) ∧ Fr w.heap.size [] w w' := by
  go_enter Try.func55, Try.ntmps55
  go_wp2_with fail
  refine (put_any _ _ (by omega) (by omega)).mono ?_
  rintro e w1 ⟨x, rfl, hx, hx', hf⟩
  have hx2 := hx' (by simp [fitsB]; omega)
  subst hx2
  have hx4 := Nat.le_of_eq hx
  have Hf := Lib.hid hf
  clear hf hx' hx
  go_wp2_with fail
  go_ret
  exact ⟨rfl, Hf.out⟩
end Go.Proofs.Ytkmkdodhahcpdaa
