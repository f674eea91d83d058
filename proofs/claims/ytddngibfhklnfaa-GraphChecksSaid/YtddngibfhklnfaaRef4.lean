/- The contracts of forebayref04.Right, forebayref04.Fits, forebayref05.take and leave. -/
import Derived.Test.YtddngibfhklnfaaCode
namespace Go.Proofs.Ytddngibfhklnfaa
open Go.RowKit Go.Fb
set_option maxRecDepth 100000 in
set_option maxHeartbeats 4000000 in
theorem rright_any (i : Int × Int) (w : World) : Calls Try.prog 94 #[.agg #[.int .i64 i.1, .int .i64 i.2]] w fun e w' => e = .returned (.bool (rightB i)) ∧ Fr w.heap.size [] w w' := by
  obtain ⟨o, a⟩ := i
  obtain ⟨v, hv⟩ : ∃ v, v = rightB (o, a) := ⟨_, rfl⟩
  rw [← hv]
  unfold rightB boF boT at hv
  simp only at hv ⊢
  by_cases c1 : o < 0
  · obtain rfl : v = false := by rw [hv]; exact decide_eq_false (by omega)
    clear hv
    go_enter Try.func94, Try.ntmps94
    go_wp2_with fail
    go_ret
    exact ⟨rfl, (Fr.refl _ _ _).alloc (Nat.le_refl _) _⟩
  by_cases c2 : 17 < o
  · obtain rfl : v = false := by rw [hv]; exact decide_eq_false (by omega)
    clear hv
    go_enter Try.func94, Try.ntmps94
    go_wp2_with fail
    go_ret
    exact ⟨rfl, (Fr.refl _ _ _).alloc (Nat.le_refl _) _⟩
  by_cases h12 : o = 1 ∨ o = 2
  · rw [if_pos h12, if_pos h12] at hv
    by_cases a1 : a < -524288
    · obtain rfl : v = false := by rw [hv]; exact decide_eq_false (by omega)
      have hd : decide (-524288 ≤ a) = false := decide_eq_false (by omega)
      clear hv
      rcases h12 with rfl | rfl
      all_goals
        go_enter Try.func94, Try.ntmps94
        go_wp2_with fail
        go_ret
        exact ⟨rfl, (Fr.refl _ _ _).alloc (Nat.le_refl _) _⟩
    by_cases a2 : 524287 < a
    · obtain rfl : v = false := by rw [hv]; exact decide_eq_false (by omega)
      have hd : decide (a ≤ 524287) = false := decide_eq_false (by omega)
      clear hv
      rcases h12 with rfl | rfl
      all_goals
        go_enter Try.func94, Try.ntmps94
        go_wp2_with fail
        go_ret
        exact ⟨rfl, (Fr.refl _ _ _).alloc (Nat.le_refl _) _⟩
    · obtain rfl : v = true := by rw [hv]; exact decide_eq_true (by omega)
      have hd : decide (a ≤ 524287) = true := decide_eq_true (by omega)
      have hd2 : decide (-524288 ≤ a) = true := decide_eq_true (by omega)
      clear hv
      rcases h12 with rfl | rfl
      all_goals
        go_enter Try.func94, Try.ntmps94
        go_wp2_with fail
        go_ret
        exact ⟨rfl, (Fr.refl _ _ _).alloc (Nat.le_refl _) _⟩
  rw [if_neg h12, if_neg h12] at hv
  by_cases h45 : o = 4 ∨ o = 5
  · rw [if_pos h45, if_pos h45] at hv
    by_cases a0 : a = 0
    · obtain rfl : v = true := by rw [hv]; exact decide_eq_true (by omega)
      subst a0
      clear hv
      rcases h45 with rfl | rfl
      all_goals
        go_enter Try.func94, Try.ntmps94
        go_wp2_with fail
        go_ret
        exact ⟨rfl, (Fr.refl _ _ _).alloc (Nat.le_refl _) _⟩
    by_cases a1 : a = 1
    · obtain rfl : v = true := by rw [hv]; exact decide_eq_true (by omega)
      subst a1
      clear hv
      rcases h45 with rfl | rfl
      all_goals
        go_enter Try.func94, Try.ntmps94
        go_wp2_with fail
        go_ret
        exact ⟨rfl, (Fr.refl _ _ _).alloc (Nat.le_refl _) _⟩
    · obtain rfl : v = false := by rw [hv]; exact decide_eq_false (by omega)
      have e0 : (a == 0) = false := by simpa using a0
      have e1 : (a == 1) = false := by simpa using a1
      clear hv
      rcases h45 with rfl | rfl
      all_goals
        go_enter Try.func94, Try.ntmps94
        go_wp2_with fail
        go_ret
        exact ⟨rfl, (Fr.refl _ _ _).alloc (Nat.le_refl _) _⟩
  rw [if_neg h45, if_neg h45] at hv
  by_cases hj : o = 15 ∨ o = 16
  · rw [if_pos hj, if_pos hj] at hv
    by_cases a1 : a < 1
    · obtain rfl : v = false := by rw [hv]; exact decide_eq_false (by omega)
      have hd : decide (1 ≤ a) = false := decide_eq_false (by omega)
      clear hv
      rcases hj with rfl | rfl
      all_goals
        go_enter Try.func94, Try.ntmps94
        go_wp2_with fail
        go_ret
        exact ⟨rfl, (Fr.refl _ _ _).alloc (Nat.le_refl _) _⟩
    by_cases a2 : 24 < a
    · obtain rfl : v = false := by rw [hv]; exact decide_eq_false (by omega)
      have hd : decide (a ≤ 24) = false := decide_eq_false (by omega)
      clear hv
      rcases hj with rfl | rfl
      all_goals
        go_enter Try.func94, Try.ntmps94
        go_wp2_with fail
        go_ret
        exact ⟨rfl, (Fr.refl _ _ _).alloc (Nat.le_refl _) _⟩
    · obtain rfl : v = true := by rw [hv]; exact decide_eq_true (by omega)
      have hd : decide (a ≤ 24) = true := decide_eq_true (by omega)
      have hd2 : decide (1 ≤ a) = true := decide_eq_true (by omega)
      clear hv
      rcases hj with rfl | rfl
      all_goals
        go_enter Try.func94, Try.ntmps94
        go_wp2_with fail
        go_ret
        exact ⟨rfl, (Fr.refl _ _ _).alloc (Nat.le_refl _) _⟩
  · rw [if_neg hj, if_neg hj] at hv
    have n1 : (o == 1) = false := by simp; omega
    have n2 : (o == 2) = false := by simp; omega
    have n4 : (o == 4) = false := by simp; omega
    have n5 : (o == 5) = false := by simp; omega
    have n15 : (o == 15) = false := by simp; omega
    have n16 : (o == 16) = false := by simp; omega
    obtain rfl : v = (a == 0) := by rw [hv, Bool.eq_iff_iff]; simp; omega
    clear hv h12 h45 hj
    go_enter Try.func94, Try.ntmps94
    go_wp2_with fail
    go_ret
    exact ⟨rfl, (Fr.refl _ _ _).alloc (Nat.le_refl _) _⟩
set_option maxRecDepth 100000 in
theorem rfits_any (A : Option Addr) (c B : Nat) (l : List (Int × Int)) (w : World) (hr : Reads w B 2 A l.length (cellsI l)) (hB : B ≤ w.heap.size) (hn : l.length ≤ maxLen) :
    Calls Try.prog 75 #[.slice A l.length c] w fun e w' => e = .returned (.bool (fitsB l)) ∧ Fr w.heap.size [] w w' := by
  unfold maxLen at hn
  have HR := Lib.hid hr
  obtain ⟨n, hnl⟩ : ∃ n, n = l.length := ⟨_, rfl⟩
  have HV := Lib.hid (show fitsB l = (decide (n ≤ 24) && l.all rightB) by rw [hnl]; rfl)
  rw [← hnl] at hn ⊢
  have HN := Lib.hid hnl
  clear hr hnl
  go_enter Try.func75, Try.ntmps75
  go_wp2_with fail
  go_loopw [3] (fun i wr => ∃ k : Nat, k ≤ n ∧ i = .int .i64 k ∧ RowKit.Hid ((l.take k).all rightB = true) ∧ RowKit.Hid (Fr w.heap.size [] w wr)) (fun i _ => n - (intOf i).toNat)
  case atStart => exact ⟨0, Nat.zero_le _, rfl, rfl, Fr.refl _ _ _⟩
  case round =>
    obtain ⟨k, hk, rfl, HA, HF⟩ := hrel
    by_cases hlt : k < n
    · obtain ⟨x, hx⟩ : ∃ x, l[k]? = some x := ⟨_, List.getElem?_eq_getElem (by rw [← HN.out]; exact hlt)⟩
      obtain ⟨b, off, rfl, hb, c1, c2⟩ := reads_ins (HR.out.fr HF.out hB (by simp)) hx
      have hki : (k : Int) < (n : Int) := by omega
      have HX := Lib.hid hx
      clear hx
      go_wp2_with fail
      refine (rright_any x _).mono ?_
      rintro e w1 ⟨rfl, f1⟩
      have F1 := Lib.hid (HF.out.trans (f1.mono (B' := w.heap.size) (L' := []) HF.out.size (by simp)))
      clear f1
      cases hrx : rightB x
      case false =>
        have HVV := Lib.hid (all_bad HX.out hrx)
        clear hrx
        go_wp2_with fail
        go_ret
        exact ⟨by rw [HV.out, HVV.out]; simp, F1.out⟩
      case true =>
        have HVV := Lib.hid hrx
        clear hrx
        go_wp2_with fail
        go_roundw
        case rel => exact ⟨k + 1, by omega, by go_num, (by show _ = _; rw [all_take_succ HX.out, HA.out, HVV.out]; rfl), F1.out⟩
        case measure => simp [intOf]; omega
    · obtain rfl : n = k := by omega
      have h := HA.out
      rw [List.take_of_length_le (by rw [HN.out]; exact Nat.le_refl _)] at h
      have HH := Lib.hid h
      clear h
      go_wp2_with fail
      go_ret
      exact ⟨by rw [HV.out, HH.out, Bool.and_true]; simp; omega, HF.out⟩
set_option maxRecDepth 100000 in
set_option maxHeartbeats 4000000 in
theorem take_any (o : Int) (ho : 0 ≤ o ∧ o ≤ 17) (w : World) : Calls Try.prog 76 #[.int .i64 o] w fun e w' => e = .returned (.int .i64 (takesF o)) ∧ w = w' := by
  have h : o = 0 ∨ o = 1 ∨ o = 2 ∨ o = 3 ∨ o = 4 ∨ o = 5 ∨ o = 6 ∨ o = 7 ∨ o = 8 ∨ o = 9 ∨ o = 10 ∨ o = 11 ∨ o = 12 ∨ o = 13 ∨ o = 14 ∨ o = 15 ∨ o = 16 ∨ o = 17 := by omega
  clear ho
  rcases h with rfl | rfl | rfl | rfl | rfl | rfl | rfl | rfl | rfl | rfl | rfl | rfl | rfl | rfl | rfl | rfl | rfl | rfl
  all_goals
    go_enter Try.func76, Try.ntmps76
    go_wp2_with fail
    go_ret
    exact ⟨by simp [takesF], rfl⟩
set_option maxRecDepth 100000 in
set_option maxHeartbeats 4000000 in
theorem leave_any (o : Int) (ho : 0 ≤ o ∧ o ≤ 17) (w : World) : Calls Try.prog 77 #[.int .i64 o] w fun e w' => e = .returned (.int .i64 (leavesF o)) ∧ w = w' := by
  have h : o = 0 ∨ o = 1 ∨ o = 2 ∨ o = 3 ∨ o = 4 ∨ o = 5 ∨ o = 6 ∨ o = 7 ∨ o = 8 ∨ o = 9 ∨ o = 10 ∨ o = 11 ∨ o = 12 ∨ o = 13 ∨ o = 14 ∨ o = 15 ∨ o = 16 ∨ o = 17 := by omega
  clear ho
  rcases h with rfl | rfl | rfl | rfl | rfl | rfl | rfl | rfl | rfl | rfl | rfl | rfl | rfl | rfl | rfl | rfl | rfl | rfl
  all_goals
    go_enter Try.func77, Try.ntmps77
    go_wp2_with fail
    go_ret
    exact ⟨by simp [leavesF], rfl⟩
end Go.Proofs.Ytddngibfhklnfaa
