/- A source with one to three partitions: Lens, Between(nil, Lens), Upto. -/
import Derived.Test.YtdkdhhfejbecdaaSpB
import Derived.Test.YtdkdhhfejbecdaaSrcG
namespace Go.Proofs.Ytdkdhhfejbecdaa
open Go.RowKit Go.Fb
theorem lens1 (A : Option Addr) (m c : Nat) (at_ : Int) (w : World) : Calls Try.prog 110 #[.agg #[.slice A m c, .int .i64 at_]] w fun e w' => e = .returned (.int .i64 (m : Nat)) ∧ Fr w.heap.size [] w w' := by
  go_enter Try.func110, Try.ntmps110
  go_wp2_with fail
  go_ret
  exact ⟨rfl, (Fr.refl _ _ _).alloc (Nat.le_refl _) _⟩
/-- The lengths of the first k partitions' lists. -/
def lensL (R : Nat → List (Nat → Int)) (k : Nat) : List Value := (List.range k).map fun i => .int .i64 ((R i).length : Nat)
theorem lensL_succ (R : Nat → List (Nat → Int)) (k : Nat) : lensL R (k + 1) = lensL R k ++ [.int .i64 ((R k).length : Nat)] := by
  unfold lensL
  rw [List.range_succ, List.map_append]
  rfl
theorem lensL_get {R : Nat → List (Nat → Int)} {k i : Nat} (h : i < k) : (lensL R k)[i]? = some (.int .i64 ((R i).length : Nat)) := by
  unfold lensL
  rw [List.getElem?_map, List.getElem?_range h]
  rfl
section
variable {base gs gp P : Nat} {r : Nat → Int} {R : Nat → List (Nat → Int)} {V : Nat → Value}
def LensOut (P : Nat) (R : Nat → List (Nat → Int)) (w : World) (e : Ending) (w' : World) : Prop :=
  ∃ A c, e = .returned (.slice A P c) ∧ w'.ownsRow w.heap.size 3 1 (.slice A P c) P (lensL R P) ∧ Fr w.heap.size [] w w'
set_option maxRecDepth 100000 in
set_option maxHeartbeats 1000000 in
theorem eachlens_any {w : World} (h : Sp base gs gp P r R V w) : Calls Try.prog 109 #[.pointer (some ⟨gs, 0, none⟩), .func (.func 110) #[] #[]] w (LensOut P R w) := by
  have H := Lib.hid h
  have s8 := h.st.cell 8
  simp [srcR] at s8
  have hP3 := h.pos.2
  have hP1 := h.pos.1
  clear h
  go_enter Try.func109, Try.ntmps109
  go_wp2_with fail
  go_loopg [5, 15] P (fun g s5 s15 wr => ∃ (k : Nat) (A : Option Addr) (c : Nat), k ≤ P ∧ g = P - k ∧ s15 = .int .i64 k ∧ s5 = .slice A k c ∧ RowKit.Hid (wr.ownsRow w.heap.size 3 1 (.slice A k c) k (lensL R k)) ∧ RowKit.Hid (Fr w.heap.size [] w wr))
  case atStart => exact ⟨0, none, 0, Nat.zero_le _, rfl, rfl, rfl, Lib.hid (World.ownsRow_nil _ _ _ _), Lib.hid (Fr.refl _ _ _)⟩
  case round =>
    obtain ⟨k, A, c, hk, rfl, rfl, rfl, HO, HF⟩ := hrel
    by_cases hkP : k < P
    · have S := H.out.keep HF.out
      obtain ⟨A1, c1, hVk, _, _, _⟩ := ownsRow_shape (S.own k hkP)
      have hki : (k : Int) < (P : Int) := by omega
      have t0 := S.pt.cell (k * 2)
      have t1 := S.pt.cell (k * 2 + 1)
      rw [(ptC_get hP3 hkP).1, hVk] at t0
      rw [(ptC_get hP3 hkP).2] at t1
      obtain ⟨m, hm⟩ : ∃ m, m = (R k).length := ⟨_, rfl⟩
      rw [← hm] at t0
      have HL := Lib.hid (fun w => lens1 A1 m c1 0 w)
      have HLS := Lib.hid (show lensL R (k + 1) = lensL R k ++ [.int .i64 (m : Nat)] by rw [hm]; exact lensL_succ R k)
      clear S hVk hm
      go_wp2_with fail
      have f1 := (Fr.refl wr.heap.size [] wr).alloc (Nat.le_refl _) (.cells #[.slice A1 m c1, .int .i64 0] 118)
      generalize wr.alloc _ = w1 at *
      refine (HL.out _).mono ?_
      rintro e w2 ⟨rfl, f2⟩
      have f12 := f1.trans (f2.mono (B' := wr.heap.size) (L' := []) f1.size (by simp))
      have HO2 := Lib.hid (ownsRow_fr HO.out f12 (fun q hq => ⟨(HO.out.lt q hq).2, by simp⟩))
      have F2 := Lib.hid (HF.out.trans (f12.mono (B' := w.heap.size) (L' := []) HF.out.size (by simp)))
      have hsz := F2.out.size
      have hown := HO2.out
      clear f1 f2 f12 HO HF
      go_wp2_with (at_builtin; refine wpList_app_lit _ rfl (.tmp 19) (.tmp 23) intsTy rfl w.heap.size (.slice A k c) k _ rfl hown 1 1 _ rfl rfl (by simp [Value.oneCell']) (by omega) (by omega) hsz ?_; intro A2 c2 w3 hown3 hg3 hat3)
      have F4 := Lib.hid (F2.out.trans (Fr.of_app hg3 hown hsz))
      have HO3 := Lib.hid hown3
      clear hown3 hg3 hat3 hown
      go_roundg (P - (k + 1))
      case measure => omega
      case rel => exact ⟨k + 1, A2, c2, by omega, rfl, by go_num, rfl, by rw [HLS.out]; exact HO3, F4⟩
    · obtain rfl : k = P := by omega
      go_wp2_with fail
      go_ret
      exact ⟨A, c, rfl, HO.out, HF.out⟩
set_option maxRecDepth 100000 in
theorem lens_any {w : World} (h : Sp base gs gp P r R V w) : Calls Try.prog 73 #[.pointer (some ⟨gs, 0, none⟩)] w (LensOut P R w) := by
  have HE := Lib.hid (eachlens_any h)
  clear h
  go_enter Try.func73, Try.ntmps73
  go_wp2_with fail
  refine HE.out.mono ?_
  rintro e w1 ⟨A, c, rfl, ho, hf⟩
  have HO := Lib.hid ho
  have HF := Lib.hid hf
  clear ho hf
  go_wp2_with fail
  go_ret
  exact ⟨A, c, rfl, HO.out, HF.out⟩
end
theorem held_nilk (k m : Nat) (w : World) : Calls Try.prog 139 #[.slice none 0 0, .int .i64 (k : Nat), .int .i64 m] w fun e w' => e = .returned (.int .i64 0) ∧ w = w' := by
  have hk : (0 : Int) ≤ (k : Int) := by omega
  go_enter Try.func139, Try.ntmps139
  go_wp2_with fail
  go_ret
  exact ⟨rfl, rfl⟩
theorem held_lens {A : Option Addr} {c P k m B : Nat} {R : Nat → List (Nat → Int)} (hk : k < P) (hm : m = (R k).length) (w : World) (hr : Reads w B 1 A P (lensL R P)) : Calls Try.prog 139 #[.slice A P c, .int .i64 (k : Nat), .int .i64 m] w fun e w' => e = .returned (.int .i64 (m : Nat)) ∧ w = w' := by
  obtain ⟨b1, o1, u, rfl, hb1, hu, hc1⟩ := hr.one hk
  rw [lensL_get hk, ← hm] at hu
  injection hu with hu
  subst hu
  clear hr hm
  have hki : (k : Int) < (P : Int) := by omega
  have hk0 : (0 : Int) ≤ (k : Int) := by omega
  have hm0 : (0 : Int) ≤ (m : Int) := by omega
  go_enter Try.func139, Try.ntmps139
  go_wp2_with fail
  go_ret
  exact ⟨rfl, rfl⟩
end Go.Proofs.Ytdkdhhfejbecdaa
