/- A source with one partition: Left. -/
import Derived.Test.YtkmpcddhbdndkaaSrcE
namespace Go.Proofs.Ytkmpcddhbdndkaa
open Go.RowKit Go.Fb
theorem left1f (A : Option Addr) (m c : Nat) (at_ : Nat) (w : World) (hm : m ≤ 1000) (ha : at_ ≤ m) : Calls Try.prog 70 #[.agg #[.slice A m c, .int .i64 at_]] w fun e w' => e = .returned (.int .i64 ((m : Int) - at_)) ∧ Fr w.heap.size [] w w' := by
  go_enter Try.func70, Try.ntmps70
  go_wp2_with fail
  go_ret
  exact ⟨rfl, (Fr.refl _ _ _).alloc (Nat.le_refl _) _⟩
set_option maxRecDepth 100000 in
theorem each_left {base gs gp : Nat} {l : List (Nat → Int)} {at_ : Nat} {V : Value} {w : World} (h : Sr base gs gp l at_ V w) (hl : l.length ≤ 1000) (ha : at_ ≤ l.length) :
    Calls Try.prog 69 #[.pointer (some ⟨gs, 0, none⟩), .func (.func 70) #[] #[]] w fun e w' => ∃ A c, e = .returned (.slice A 1 c) ∧ w'.ownsRow w.heap.size 3 1 (.slice A 1 c) 1 [.int .i64 ((l.length : Int) - at_)] ∧ Fr w.heap.size [] w w' := by
  obtain ⟨A1, c1, rfl, _, _, _⟩ := ownsRow_shape h.own
  have H := Lib.hid h
  have l1 := h.st.lt
  have l2 := h.pt.lt
  obtain ⟨m, hm⟩ : ∃ m, m = l.length := ⟨_, rfl⟩
  rw [← hm] at hl ha H ⊢
  have s8 := H.out.st.cell 8
  simp at s8
  clear h hm
  go_enter Try.func69, Try.ntmps69
  go_wp2_with fail
  go_loopw [5, 15] (fun s i wr => (i = .int .i64 0 ∧ s = .slice none 0 0 ∧ wr = w) ∨ (i = .int .i64 1 ∧ ∃ A c, s = .slice A 1 c ∧ RowKit.Hid (wr.ownsRow w.heap.size 3 1 (.slice A 1 c) 1 [.int .i64 ((m : Int) - at_)]) ∧ RowKit.Hid (Fr w.heap.size [] w wr))) (fun _ i _ => 1 - (intOf i).toNat)
  case atStart => exact .inl ⟨rfl, rfl, rfl⟩
  case round =>
    rcases hrel with ⟨rfl, rfl, rfl⟩ | ⟨rfl, A, c, rfl, HO, HF⟩
    · have t0 := H.out.pt.cell 0
      have t1 := H.out.pt.cell 1
      simp at t0 t1
      have HL := Lib.hid (fun w => left1f A1 m c1 at_ w hl ha)
      go_wp2_with fail
      have f1 := (Fr.refl wr.heap.size [] wr).alloc (Nat.le_refl _) (.cells #[.slice A1 m c1, .int .i64 at_] 122)
      generalize wr.alloc _ = w1 at *
      refine (HL.out _).mono ?_
      rintro e w2 ⟨rfl, f2⟩
      have F2 := Lib.hid (f1.trans (f2.mono f1.size (by simp)))
      have hs2 := F2.out.size
      clear f1 f2
      go_wp2_with (at_builtin; refine wpList_app_lit _ rfl (.tmp 19) (.tmp 23) intsTy rfl wr.heap.size (.slice none 0 0) 0 [] rfl (World.ownsRow_nil _ _ _ _) 1 1 _ rfl rfl (by simp [Value.oneCell']) (by omega) (by omega) (by omega) ?_; intro A2 c2 w3 hown3 hg3 hat3)
      go_roundw
      case rel =>
        refine .inr ⟨by go_num, A2, c2, rfl, by show World.ownsRow _ _ _ _ _ _ _; simpa using hown3, ?_⟩
        exact F2.out.trans (((Fr.refl wr.heap.size [] w2).alloc hs2 _).grown hg3 (by simp; omega) (fun k hk => by simp [Value.ownBlock] at hk))
      case measure => simp [intOf]
    · go_wp2_with fail
      go_ret
      exact ⟨A, c, rfl, HO.out, HF.out⟩
set_option maxRecDepth 100000 in
theorem left1 {base gs gp : Nat} {l : List (Nat → Int)} {at_ : Nat} {V : Value} {w : World} (h : Sr base gs gp l at_ V w) (hl : l.length ≤ 1000) (ha : at_ ≤ l.length) :
    Calls Try.prog 32 #[.pointer (some ⟨gs, 0, none⟩)] w fun e w' => e = .returned (.int .i64 ((l.length : Int) - at_)) ∧ Fr w.heap.size [] w w' := by
  have HE := Lib.hid (each_left h hl ha)
  clear h
  generalize l.length = m at *
  go_enter Try.func32, Try.ntmps32
  go_wp2_with fail
  refine HE.out.mono ?_
  rintro e w1 ⟨A, c, rfl, ho, f1⟩
  obtain ⟨b1, o1, u, rfl, hb1, hu, hc1⟩ := (Reads.of_own ho).one (k := 0) (by omega)
  simp at hu
  subst hu
  rw [Nat.add_zero] at hc1
  have F1 := Lib.hid f1
  clear ho f1
  go_wp2_with fail
  go_loop [3, 9] (fun s i => (s = .int .i64 0 ∧ i = .int .i64 0) ∨ (s = .int .i64 ((m : Int) - at_) ∧ i = .int .i64 1)) (fun _ i => 1 - (intOf i).toNat)
  case atStart => exact .inl ⟨rfl, rfl⟩
  case round =>
    rcases hrel with ⟨rfl, rfl⟩ | ⟨rfl, rfl⟩
    · go_wp2_with fail
      go_round
      case rel => exact .inr ⟨by go_num, by go_num⟩
      case measure => simp [intOf]
    · go_wp2_with fail
      go_ret
      exact ⟨rfl, F1.out⟩
end Go.Proofs.Ytkmpcddhbdndkaa
