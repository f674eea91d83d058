/- The contracts of the references of layer 1, and of the writer's Text. -/
import Derived.Test.YtkmpcddhbdndkaaReader
namespace Go.Proofs.Ytkmpcddhbdndkaa
open Go.RowKit Go.Fb

theorem conv4 (a b c d : Int) (w : World) : (convert 134 9 (.slice (some ⟨w.heap.size, 0, none⟩) 4 4)).run Try.prog (w.alloc (.cells #[.int .u8 a, .int .u8 b, .int .u8 c, .int .u8 d] 5)) = .ok (.string (strOfNums [a, b, c, d])) (w.alloc (.cells #[.int .u8 a, .int .u8 b, .int .u8 c, .int .u8 d] 5)) := by
  have hb := Blk.new w 5 #[.int .u8 a, .int .u8 b, .int .u8 c, .int .u8 d]
  refine run_convert_bytes_arg _ _ _ Try.underlying134 Try.underlying5 _ 0 4 4 [a, b, c, d] rfl (fun i hi => ?_) _ Try.underlying9
  rw [hb.cell]
  match i, hi with
  | 0, _ => rfl
  | 1, _ => rfl
  | 2, _ => rfl
  | 3, _ => rfl

/-- Some string of four bytes; of a number that fits, its bytes. -/
def PutOut (n : Int) (w : World) (e : Ending) (w' : World) : Prop := ∃ s : ByteArray, e = .returned (.string s) ∧ s.size = 4 ∧ (fitsB n = true → s = strOfNums (be n)) ∧ Fr w.heap.size [] w w'
theorem put_any (n : Int) (w : World) (h1 : -9223372036854775808 ≤ n) (h2 : n ≤ 9223372036854775807) : Calls Try.prog 80 #[.int .i64 n] w (PutOut n w) := by
  have hcv := fun a b c d => conv4 a b c d w
  by_cases hf : fitsB n = true
  · obtain ⟨g1, g2⟩ : -2147483648 ≤ n ∧ n ≤ 2147483647 := of_decide_eq_true hf
    have Hf := Lib.hid hf
    clear hf h1 h2
    by_cases hn : n < 0
    · go_enter Try.func80, Try.ntmps80
      go_wp2_with fail
      go_ret
      refine ⟨_, rfl, by rw [strOfNums_size]; rfl, fun _ => ?_, (Fr.refl _ _ _).alloc (Nat.le_refl _) _⟩
      congr 1
      simp only [be, List.cons.injEq, and_true]
      omega
    · go_enter Try.func80, Try.ntmps80
      go_wp2_with fail
      go_ret
      refine ⟨_, rfl, by rw [strOfNums_size]; rfl, fun _ => ?_, (Fr.refl _ _ _).alloc (Nat.le_refl _) _⟩
      congr 1
      simp only [be, List.cons.injEq, and_true]
      omega
  · by_cases hn : n < 0
    all_goals
      go_enter Try.func80, Try.ntmps80
      go_wp2_with fail
      go_ret
      exact ⟨_, rfl, by rw [strOfNums_size]; rfl, fun h => absurd h hf, (Fr.refl _ _ _).alloc (Nat.le_refl _) _⟩

set_option maxRecDepth 100000 in
theorem get_any (s : ByteArray) (w : World) (hm : s.size ≤ maxLen) : Calls Try.prog 83 #[.string s] w fun e w' =>
    e = .returned (.tuple #[.int .i64 (if s.size < 4 then 0 else numOf s), .bool (decide (4 ≤ s.size))]) ∧ w = w' := by
  unfold maxLen at hm
  by_cases hs : s.size < 4
  · have hd : decide (4 ≤ s.size) = false := by simp; omega
    rw [if_pos hs, hd]
    clear hd
    go_enter Try.func83, Try.ntmps83
    go_wp2_with fail
    go_ret2
    exact ⟨rfl, rfl⟩
  · have hd : decide (4 ≤ s.size) = true := by simp; omega
    rw [if_neg hs, hd]
    clear hd
    go_enter Try.func83, Try.ntmps83
    go_wp2_with fail
    go_loop [4, 5] (fun u i => ∃ k : Nat, k ≤ 4 ∧ i = .int .i64 k ∧ u = .int .i64 (fourU (bl s) k)) (fun _ i => 4 - (intOf i).toNat)
    case atStart => exact ⟨0, by omega, rfl, rfl⟩
    case round =>
      obtain ⟨k, hk, rfl, rfl⟩ := hrel
      obtain ⟨h0, h1, h2⟩ := fourU_bound (bl_range s) k
      have h2' := h2 hk
      by_cases hlt : k < 4
      · have hks : k < s.size := by omega
        have hkd : k < s.data.size := hks
        have hx : (bl s)[k]? = some (s[k].toNat : Int) := by
          unfold bl
          rw [List.getElem?_map, List.getElem?_eq_getElem (by rw [Array.length_toList]; exact hkd)]
          rfl
        have h1' := h1 (by omega)
        obtain ⟨hx1, hx2⟩ := bl_range s _ (List.mem_of_getElem? hx)
        have hn := fourU_succ (bl s) k hx
        have HN := Lib.hid hn
        clear hn hx h1 h2 h2'
        generalize hU : fourU (bl s) k = U at *
        have HU := Lib.hid hU
        clear hU
        go_wp2_with fail
        go_round
        case rel => exact ⟨k + 1, by omega, by go_num, by rw [HN.out]; go_num⟩
        case measure => simp [intOf]; omega
      · obtain rfl : k = 4 := by omega
        have hN : numOf s = fourI (fourU (bl s) 4) := rfl
        clear h1 h2
        generalize fourU (bl s) 4 = U at *
        have HN := Lib.hid hN
        clear hN
        by_cases hU : U < 2147483648
        · go_wp2_with fail
          go_ret2
          have hv : numOf s = U := by rw [HN.out, fourI, if_pos hU]
          refine ⟨?_, rfl⟩
          rw [hv]; rfl
        · go_wp2_with fail
          go_ret2
          have hv : numOf s = U - 4294967296 := by rw [HN.out, fourI, if_neg (by omega)]
          refine ⟨?_, rfl⟩
          rw [hv]; rfl

theorem bl_empty : bl ByteArray.empty = [] := by
  have := bl_length ByteArray.empty
  exact List.eq_nil_of_length_eq_zero this

end Go.Proofs.Ytkmpcddhbdndkaa
