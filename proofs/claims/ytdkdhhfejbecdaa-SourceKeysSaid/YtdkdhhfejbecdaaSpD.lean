/- A source with one to three partitions: all its records. -/
import Derived.Test.YtdkdhhfejbecdaaSpC
import Derived.Deep.DeepCutAuto
namespace Go.Proofs.Ytdkdhhfejbecdaa
open Go.RowKit Go.Fb
/-- The records of the first k partitions, one behind the other. -/
def flatR (R : Nat → List (Nat → Int)) (k : Nat) : List (Nat → Int) := (List.range k).flatMap R
theorem flatR_succ (R : Nat → List (Nat → Int)) (k : Nat) : flatR R (k + 1) = flatR R k ++ R k := by
  unfold flatR
  rw [List.range_succ, List.flatMap_append]
  simp
theorem cellsR_app (a b : List (Nat → Int)) : cellsR (a ++ b) = cellsR a ++ cellsR b := by simp [cellsR]
theorem flatR_le (R : Nat → List (Nat → Int)) {k P : Nat} (h : k ≤ P) : (flatR R k).length ≤ (flatR R P).length := by
  induction P with
  | zero => have : k = 0 := by omega
            subst this; exact Nat.le_refl _
  | succ P ih =>
    rcases Nat.lt_or_ge k (P + 1) with h1 | h1
    · have := ih (by omega)
      rw [flatR_succ, List.length_append]; omega
    · have : k = P + 1 := by omega
      subst this; exact Nat.le_refl _
section
variable {base gs gp P : Nat} {r : Nat → Int} {R : Nat → List (Nat → Int)} {V : Nat → Value}
def AllOut (P : Nat) (R : Nat → List (Nat → Int)) (w : World) (e : Ending) (w' : World) : Prop :=
  ∃ A c, e = .returned (.slice A (flatR R P).length c) ∧ w'.ownsRow w.heap.size 64 3 (.slice A (flatR R P).length c) (flatR R P).length (cellsR (flatR R P)) ∧ Fr w.heap.size [] w w'
set_option maxRecDepth 100000 in
set_option maxHeartbeats 2000000 in
theorem betweenall_any {w : World} (h : Sp base gs gp P r R V w) (hl : (flatR R P).length ≤ 1000) (AL : Option Addr) (cL B : Nat) (hr : Reads w B 1 AL P (lensL R P)) (hB : B ≤ w.heap.size) :
    Calls Try.prog 108 #[.pointer (some ⟨gs, 0, none⟩), .slice none 0 0, .slice AL P cL] w (AllOut P R w) := by
  have H := Lib.hid h
  have HR := Lib.hid hr
  have HL := Lib.hid (fun k (hk : k ≤ P) => Nat.le_trans (flatR_le R hk) hl)
  have s8 := h.st.cell 8
  simp [srcR] at s8
  have hP3 := h.pos.2
  have hP1 := h.pos.1
  have hgsl := h.st.lt
  clear h hr hl
  go_enter Try.func108, Try.ntmps108
  go_wp2_with fail
  go_loopg [7, 19] P (fun g s7 s19 wr => ∃ (k n : Nat) (A : Option Addr) (c : Nat), k ≤ P ∧ g = P - k ∧ s19 = .int .i64 k ∧ s7 = .slice A n c ∧ RowKit.Hid (n = (flatR R k).length) ∧ RowKit.Hid (wr.ownsRow w.heap.size 64 3 (.slice A n c) n (cellsR (flatR R k))) ∧ RowKit.Hid (Fr w.heap.size [] w wr))
  case atStart => exact ⟨0, 0, none, 0, Nat.zero_le _, rfl, rfl, rfl, Lib.hid rfl, Lib.hid (World.ownsRow_nil _ _ _ _), Lib.hid (Fr.refl _ _ _)⟩
  case round =>
    obtain ⟨k, n, A, c, hk, rfl, rfl, rfl, HN, HO, HF⟩ := hrel
    by_cases hkP : k < P
    · have S := H.out.keep HF.out
      have hown1 := S.own k hkP
      obtain ⟨A1, c1, hVk, _, hc1, _⟩ := ownsRow_shape hown1
      have hki : (k : Int) < (P : Int) := by omega
      have t0 := S.pt.cell (k * 2)
      have t1 := S.pt.cell (k * 2 + 1)
      rw [(ptC_get hP3 hkP).1, hVk] at t0
      rw [(ptC_get hP3 hkP).2] at t1
      rw [hVk] at hown1
      obtain ⟨m, hm⟩ : ∃ m, m = (R k).length := ⟨_, rfl⟩
      rw [← hm] at t0 hown1 hc1
      have hnm : n + m ≤ 1000 := by have := HL.out (k + 1) (by omega); rw [flatR_succ, List.length_append, ← HN.out, ← hm] at this; exact this
      have HM := Lib.hid hm
      have RM := Lib.hid (Reads.of_own hown1)
      clear S hVk hm hown1
      go_upto_region 7 with fail
      have bx := Blk.new wr 118 #[.slice A1 m c1, .int .i64 0]
      have fx := (Fr.refl wr.heap.size [] wr).alloc (Nat.le_refl _) (.cells #[.slice A1 m c1, .int .i64 0] 118)
      have HOx := Lib.hid (ownsRow_fr HO.out fx (fun q hq => ⟨(HO.out.lt q hq).2, by simp⟩))
      have FX := Lib.hid (HF.out.trans (fx.mono (B' := w.heap.size) (L' := []) HF.out.size (by simp)))
      have RMx := Lib.hid ((RM.out.fr fx (Nat.le_refl _) (by simp)).more fx.size)
      have BX := Lib.hid bx
      clear bx fx HO HF RM t0 t1
      generalize wr.alloc (.cells #[.slice A1 m c1, .int .i64 0] 118) = w1 at *
      generalize wr.heap.size = gx at *
      have HHL := Lib.hid (fun nq => ((held_lens (c := cL) hkP HM.out (w1.drewN nq) ((HR.out.fr FX.out hB (by simp)).keep (fun p _ => rfl))).mono fun _ _ h => ⟨h.1, h.2.symm⟩ : Calls Try.prog 139 #[.slice AL P cL, .int .i64 (k : Nat), .int .i64 m] (w1.drewN nq) fun e w' => e = .returned (.int .i64 (m : Nat)) ∧ w' = w1.drewN nq))
      have HHN := Lib.hid (fun nq => ((held_nilk k m (w1.drewN nq)).mono fun _ _ h => ⟨h.1, h.2.symm⟩ : Calls Try.prog 139 #[.slice none 0 0, .int .i64 (k : Nat), .int .i64 m] (w1.drewN nq) fun e w' => e = .returned (.int .i64 0) ∧ w' = w1.drewN nq))
      have HH := Lib.hid (fun (nq b : Nat) (v : Value) (h : (v = .slice none 0 0 ∧ b = 0) ∨ (v = .slice AL P cL ∧ b = m)) => (by
        rcases h with ⟨rfl, rfl⟩ | ⟨rfl, rfl⟩
        · exact HHN.out nq
        · exact HHL.out nq : Calls Try.prog 139 #[v, .int .i64 (k : Nat), .int .i64 m] (w1.drewN nq) fun e w' => e = .returned (.int .i64 (b : Nat)) ∧ w' = w1.drewN nq))
      have x0 := BX.out.cell 0
      simp at x0
      clear HHL HHN
      go_quiet ((go_at_call 139; refine Calls.quiet_of_same (HH.out _ _ _ (by first | exact .inl ⟨rfl, rfl⟩ | exact .inr ⟨rfl, rfl⟩))))
      have FQ := Lib.hid (FX.out.drewN nq)
      have HOq := Lib.hid (ownsRow_fr HOx.out ((Fr.refl w1.heap.size [] w1).drewN nq) (fun q hq => ⟨(HOx.out.lt q hq).2, by simp⟩))
      have RMq := Lib.hid (RMx.out.keep (w' := w1.drewN nq) (fun p _ => rfl))
      have hsz := FQ.out.size
      have y0 : (w1.drewN nq).cell? ⟨gx, 0, none⟩ = some (.slice A1 m c1) := x0
      clear FX HOx RMx HH x0
      generalize w1.drewN nq = w2 at *
      by_cases hm0 : m = 0
      · have hRk : R k = [] := List.eq_nil_of_length_eq_zero (by rw [← HM.out]; exact hm0)
        have HFS := Lib.hid (show flatR R (k + 1) = flatR R k by rw [flatR_succ, hRk, List.append_nil])
        subst hm0
        clear hRk
        go_wp2_with fail
        go_roundg (P - (k + 1))
        case measure => omega
        case rel => exact ⟨k + 1, n, A, c, by omega, rfl, by go_num, rfl, by rw [HFS.out]; exact HN, by rw [HFS.out]; exact HOq, FQ⟩
      · have hm1 : (0 : Int) < (m : Int) := by omega
        have hmc : (m : Int) ≤ (c1 : Int) := by omega
        have hown := HOq.out
        have hrm := RMq.out
        have HFS := Lib.hid (show flatR R (k + 1) = flatR R k ++ R k from flatR_succ R k)
        have hm2 : decide (0 < m) = true := decide_eq_true (by omega)
        go_wp2_with (at_builtin; refine wpList_app _ rfl (.tmp 39) (.tmp 44) recTy rfl w.heap.size (.slice A n c) n _ rfl hown w1.heap.size A1 m c1 (cellsR (R k)) rfl hrm recC_one (by omega) (by omega) hsz ?_; intro A3 c3 w3 hown3 hg3 hat3)
        have F4 := Lib.hid (FQ.out.grown hg3 hsz (fun q hq => .inl (HOq.out.lt q hq).1))
        have HO3 := Lib.hid hown3
        clear hown3 hg3 hat3 hown hrm
        go_roundg (P - (k + 1))
        case measure => omega
        case rel => exact ⟨k + 1, n + m, A3, c3, by omega, rfl, by go_num, rfl, by rw [HFS.out, List.length_append, ← HM.out, ← HN.out]; exact Lib.hid rfl, by rw [HFS.out, cellsR_app]; exact HO3, F4⟩
    · obtain rfl : k = P := by omega
      have hle := HL.out k (Nat.le_refl _)
      rw [← HN.out] at hle
      go_wp2_with fail
      refine (clone_any A n c _ _ HN.out hle (Reads.of_own HO.out)).mono ?_
      rintro e w9 ⟨A9, c9, rfl, ho9, f9⟩
      have hsz := HF.out.size
      have HO9 := Lib.hid (ownsRow_base ho9 hsz)
      have F9 := Lib.hid (HF.out.trans (f9.mono hsz (by simp)))
      clear ho9 f9
      go_wp2_with fail
      go_ret
      unfold AllOut
      rw [← HN.out]
      exact ⟨A9, c9, rfl, HO9.out, F9.out⟩
set_option maxRecDepth 100000 in
theorem all_any {w : World} (h : Sp base gs gp P r R V w) (hl : (flatR R P).length ≤ 1000) (AL : Option Addr) (cL B : Nat) (hr : Reads w B 1 AL P (lensL R P)) (hB : B ≤ w.heap.size) :
    Calls Try.prog 72 #[.pointer (some ⟨gs, 0, none⟩), .slice AL P cL] w (AllOut P R w) := by
  have HB := betweenall_any h hl AL cL B hr hB
  unfold AllOut at *
  generalize flatR R P = l at *
  have HB := Lib.hid HB
  clear h hr
  go_enter Try.func72, Try.ntmps72
  go_wp2_with fail
  refine HB.out.mono ?_
  rintro e w1 ⟨A, c, rfl, ho, hf⟩
  have HO := Lib.hid ho
  have HF := Lib.hid hf
  clear ho hf
  go_wp2_with fail
  go_ret
  exact ⟨A, c, rfl, HO.out, HF.out⟩
end
end Go.Proofs.Ytdkdhhfejbecdaa
