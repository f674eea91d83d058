/- The contract of forebayref19.Right. -/
import Derived.Test.YtkmpcddhbdndkaaItemE
namespace Go.Proofs.Ytkmpcddhbdndkaa
open Go.RowKit Go.Fb
theorem bl_head {s : ByteArray} (h : 0 < s.size) : (bl s)[0]? = some ((s[0]'h).toNat : Int) := by
  have hkd : 0 < s.data.size := h
  unfold bl
  rw [List.getElem?_map, List.getElem?_eq_getElem (by rw [Array.length_toList]; exact hkd)]
  rfl
theorem get_at (s : ByteArray) (i : Nat) (hi : i + 4 ≤ s.size) (hm : s.size ≤ 1000) (w : World) : Calls Try.prog 83 #[.string (s.extract i s.size)] w fun e w' => e = .returned (.tuple #[.int .i64 (nAt (bl s) i), .bool true]) ∧ w = w' := by
  have hz : (s.extract i s.size).size = s.size - i := by rw [ByteArray.size_extract]; omega
  refine (get_any _ w (by rw [hz]; unfold maxLen; omega)).mono ?_
  rintro e w' ⟨rfl, rfl⟩
  rw [if_neg (by omega), numOf_nAt (bl_rest s i), show decide (4 ≤ (s.extract i s.size).size) = true by simp only [decide_eq_true_eq]; omega]
  exact ⟨rfl, rfl⟩
set_option maxRecDepth 100000 in
set_option maxHeartbeats 1000000 in
theorem rright_any (s : ByteArray) (w : World) (hm : s.size ≤ 1000) : Calls Try.prog 43 #[.string s] w fun e w' => e = .returned (.bool (goodI s)) ∧ Fr w.heap.size [] w w' := by
  rw [good_right]
  by_cases h13 : s.size = 13
  · have h0 : 0 < s.size := by omega
    have hh := bl_head h0
    by_cases h82 : (s[0]'h0).toNat = 82
    · have hv : rightL (bl s) = recB (nAt (bl s) 1) (nAt (bl s) 5) (nAt (bl s) 9) := by
        unfold rightL
        rw [hh, bl_length, if_pos ⟨h13, by rw [h82]; rfl⟩]
      rw [hv]
      have g1 := get_at s 1 (by omega) hm
      rw [h13] at g1
      have G1 := Lib.hid g1
      clear g1
      have g5 := get_at s 5 (by omega) hm
      rw [h13] at g5
      have G5 := Lib.hid g5
      clear g5
      have g9 := get_at s 9 (by omega) hm
      rw [h13] at g9
      have G9 := Lib.hid g9
      clear g9
      generalize nAt (bl s) 1 = n1 at *
      generalize nAt (bl s) 5 = n5 at *
      generalize nAt (bl s) 9 = n9 at *
      have HC := Lib.hid (rrec_any n1 n5 n9)
      generalize recB n1 n5 n9 = rb at *
      clear hv hh
      go_enter Try.func43, Try.ntmps43
      go_wp2_with fail
      refine (G1.out _).mono ?_
      rintro e w1 ⟨rfl, rfl⟩
      go_wp2_with fail
      refine (G5.out _).mono ?_
      rintro e w1 ⟨rfl, rfl⟩
      go_wp2_with fail
      refine (G9.out _).mono ?_
      rintro e w1 ⟨rfl, rfl⟩
      go_wp2_with fail
      refine (HC.out _).mono ?_
      rintro e w1 ⟨rfl, hf⟩
      have HF := Lib.hid hf
      clear hf
      go_wp2_with fail
      go_ret
      exact ⟨rfl, HF.out⟩
    · have hv : rightL (bl s) = false := by
        unfold rightL
        rw [hh, bl_length, if_neg (by simp; omega), if_neg (by omega)]
      rw [hv]
      clear hv hh
      go_enter Try.func43, Try.ntmps43
      go_wp2_with fail
      go_ret
      exact ⟨rfl, Fr.refl _ _ _⟩
  · by_cases h9 : s.size = 9
    · have h0 : 0 < s.size := by omega
      have hh := bl_head h0
      by_cases h66 : (s[0]'h0).toNat = 66
      · have hv : rightL (bl s) = (decide (0 ≤ nAt (bl s) 1) && (nAt (bl s) 5 == 0 || nAt (bl s) 5 == 1)) := by
          unfold rightL
          rw [hh, bl_length, if_neg (by omega), if_pos ⟨h9, by rw [h66]; rfl⟩]
        rw [hv]
        have g1 := get_at s 1 (by omega) hm
        rw [h9] at g1
        have G1 := Lib.hid g1
        clear g1
        have g5 := get_at s 5 (by omega) hm
        rw [h9] at g5
        have G5 := Lib.hid g5
        clear g5
        generalize nAt (bl s) 1 = n1 at *
        generalize nAt (bl s) 5 = n5 at *
        clear hv hh
        obtain ⟨v, hv⟩ : ∃ v, v = (decide (0 ≤ n1) && (n5 == 0 || n5 == 1)) := ⟨_, rfl⟩
        rw [← hv]
        by_cases c1 : 0 ≤ n1
        · have e1 : decide (0 ≤ n1) = true := by simp [c1]
          rw [e1, Bool.true_and] at hv
          by_cases c2 : n5 = 0
          · have e2 : v = true := by rw [hv, c2]; rfl
            subst e2
            clear hv
            go_enter Try.func43, Try.ntmps43
            go_wp2_with fail
            refine (G1.out _).mono ?_
            rintro e w1 ⟨rfl, rfl⟩
            go_wp2_with fail
            refine (G5.out _).mono ?_
            rintro e w1 ⟨rfl, rfl⟩
            go_wp2_with fail
            go_ret
            exact ⟨rfl, Fr.refl _ _ _⟩
          · by_cases c3 : n5 = 1
            · have e2 : v = true := by rw [hv, c3]; rfl
              subst e2
              clear hv
              go_enter Try.func43, Try.ntmps43
              go_wp2_with fail
              refine (G1.out _).mono ?_
              rintro e w1 ⟨rfl, rfl⟩
              go_wp2_with fail
              refine (G5.out _).mono ?_
              rintro e w1 ⟨rfl, rfl⟩
              go_wp2_with fail
              go_ret
              exact ⟨rfl, Fr.refl _ _ _⟩
            · have hv5 : (n5 == 0 || n5 == 1) = false := by simp [c2, c3]
              have HV := Lib.hid hv5
              have e2 : v = false := by rw [hv, hv5]
              clear hv5
              subst e2
              clear hv
              go_enter Try.func43, Try.ntmps43
              go_wp2_with fail
              refine (G1.out _).mono ?_
              rintro e w1 ⟨rfl, rfl⟩
              go_wp2_with fail
              refine (G5.out _).mono ?_
              rintro e w1 ⟨rfl, rfl⟩
              go_wp2_with fail
              go_ret
              exact ⟨by show Ending.returned (.bool (n5 == 0 || n5 == 1)) = _; rw [HV.out], Fr.refl _ _ _⟩
        · have e2 : v = false := by rw [hv, show decide (0 ≤ n1) = false by simp; omega]; rfl
          subst e2
          clear hv
          go_enter Try.func43, Try.ntmps43
          go_wp2_with fail
          refine (G1.out _).mono ?_
          rintro e w1 ⟨rfl, rfl⟩
          go_wp2_with fail
          refine (G5.out _).mono ?_
          rintro e w1 ⟨rfl, rfl⟩
          go_wp2_with fail
          go_ret
          exact ⟨rfl, Fr.refl _ _ _⟩
      · have hv : rightL (bl s) = false := by
          unfold rightL
          rw [hh, bl_length, if_neg (by omega), if_neg (by simp; omega)]
        rw [hv]
        clear hv hh
        go_enter Try.func43, Try.ntmps43
        go_wp2_with fail
        go_ret
        exact ⟨rfl, Fr.refl _ _ _⟩
    · have hv : rightL (bl s) = false := by
        unfold rightL
        rw [bl_length, if_neg (by omega), if_neg (by omega)]
      rw [hv]
      clear hv
      go_enter Try.func43, Try.ntmps43
      go_wp2_with fail
      go_ret
      exact ⟨rfl, Fr.refl _ _ _⟩
end Go.Proofs.Ytkmpcddhbdndkaa
