/- A source with one partition: Next, Read, Seek; a source that is not there. -/
import Derived.Test.YtdkdhhfejbecdaaSrcB
import Derived.Test.YtdkdhhfejbecdaaAlignA
namespace Go.Proofs.Ytdkdhhfejbecdaa
open Go.RowKit Go.Fb
abbrev recA (x : Nat → Int) : Array Value := #[.int .i64 (x 0), .int .i64 (x 1), .int .i64 (x 2)]
abbrev rec0 : Array Value := #[.int .i64 0, .int .i64 0, .int .i64 0]
def set3 (w : World) (g : Nat) (u0 u1 u2 : Value) : World := ((w.setCell ⟨g, 0, none⟩ u0).setCell ⟨g, 1, none⟩ u1).setCell ⟨g, 2, none⟩ u2
theorem blk_set3 {w : World} {g t : Nat} {a0 a1 a2 : Value} (h : Blk w g t #[a0, a1, a2]) (u0 u1 u2 : Value) : Blk (set3 w g u0 u1 u2) g t #[u0, u1, u2] := by
  have h2 := ((h.set_ 0 u0).set_ 1 u1).set_ 2 u2
  simp at h2
  exact h2
theorem fr_set3 {B g : Nat} {L : List Nat} {a w : World} (h : Fr B L a w) (hg : B ≤ g ∨ g ∈ L) (u0 u1 u2 : Value) : Fr B L a (set3 w g u0 u1 u2) :=
  ((h.setCell (p := ⟨g, 0, none⟩) hg _).setCell (p := ⟨g, 1, none⟩) hg _).setCell (p := ⟨g, 2, none⟩) hg _
theorem Sr.setAt {base gs gp : Nat} {l : List (Nat → Int)} {at_ : Int} {V : Value} {w : World} (h : Sr base gs gp l at_ V w) (a : Int) : Sr base gs gp l a V (w.setCell ⟨gp, 1, none⟩ (.int .i64 a)) := by
  have fs : Fr w.heap.size [gp] w (w.setCell ⟨gp, 1, none⟩ (.int .i64 a)) := (Fr.refl _ _ _).setCell (.inr (by simp)) _
  have hb := h.pt.set_ 1 (.int .i64 a)
  refine ⟨h.st.far (by simpa using h.ne) _, by simpa using hb, ownsRow_fr h.own fs (fun q hq => ⟨(h.own.lt q hq).2, by simp; rintro rfl; exact h.off.2 hq⟩), h.off, h.low⟩
set_option maxRecDepth 100000 in
set_option maxHeartbeats 1000000 in
theorem next1 {base gs gp : Nat} {l : List (Nat → Int)} {at_ : Nat} {V : Value} {w : World} (h : Sr base gs gp l at_ V w) {x : Nat → Int} (hx : l[at_]? = some x) :
    Calls Try.prog 105 #[.pointer (some ⟨gs, 0, none⟩), .int .i64 0] w fun e w' => e = .returned (.tuple #[.agg (recA x), .bool true]) ∧ Fr w.heap.size [] w w' := by
  have hlt : at_ < l.length := by
    rcases Nat.lt_or_ge at_ l.length with h | h
    · exact h
    · rw [List.getElem?_eq_none h] at hx; cases hx
  obtain ⟨A1, c1, rfl, _, _, _⟩ := ownsRow_shape h.own
  have hrd := Reads.of_own h.own
  obtain ⟨b1, o1, rfl, hb1, hc1⟩ := reads_rec hrd hx
  have p0 := hc1 0 (by omega)
  have p1 := hc1 1 (by omega)
  have p2 := hc1 2 (by omega)
  simp only [Nat.add_zero, ← Nat.add_assoc] at p0 p1 p2
  have s8 := h.st.cell 8
  have t0 := h.pt.cell 0
  have t1 := h.pt.cell 1
  simp at s8 t0 t1
  have l1 := h.st.lt
  have l2 := h.pt.lt
  clear h hc1 hrd hx
  generalize l.length = m at *
  have hti : (at_ : Int) < (m : Int) := by omega
  have hd : decide ((m : Int) ≤ (at_ : Int)) = false := by simp; omega
  go_enter Try.func105, Try.ntmps105
  go_wp2_with fail
  go_quiet (fail)
  go_wp2_with fail
  go_region
  all_goals
    go_wp2_with fail
    exact bodyPost_ret (results_row_tmp rfl _ _ w.heap.size 64 (recA x) (0, 0) _ rfl (show Blk (World.drew (set3 ((w.alloc (.cells rec0 64)).drewN nq) w.heap.size (.int .i64 (x 0)) (.int .i64 (x 1)) (.int .i64 (x 2)))) _ _ _ from (blk_set3 ((Blk.new w 64 rec0).drewN nq) _ _ _).drew) Try.underlying64 rfl (by kernel_rfl)) rfl ⟨rfl, (fr_set3 (((Fr.refl _ _ w).alloc (Nat.le_refl _) _).drewN nq) (.inl (Nat.le_refl _)) _ _ _).drew⟩
set_option maxRecDepth 100000 in
set_option maxHeartbeats 1000000 in
theorem read1 {base gs gp : Nat} {l : List (Nat → Int)} {at_ : Nat} {V : Value} {w : World} (h : Sr base gs gp l at_ V w) (hl : l.length ≤ 400) {x : Nat → Int} (hx : l[at_]? = some x) :
    Calls Try.prog 67 #[.pointer (some ⟨gs, 0, none⟩), .int .i64 0] w fun e w' => e = .returned (.tuple #[.agg (recA x), .bool true]) ∧ Sr base gs gp l ((at_ + 1 : Nat) : Int) V w' ∧ Fr w.heap.size [gp] w w' := by
  have hlt : at_ < l.length := by
    rcases Nat.lt_or_ge at_ l.length with h | h
    · exact h
    · rw [List.getElem?_eq_none h] at hx; cases hx
  have hat : (at_ : Int) < 400 := by omega
  have f0 := (Fr.refl w.heap.size [] w).alloc (Nat.le_refl _) (.cells rec0 64)
  have b0 := Blk.new w 64 rec0
  have h1 := h.keep f0
  have hgs := h.st.lt
  have hgp := h.pt.lt
  have hne := h.ne
  have hvb := fun b hb => (h.own.lt b hb).2
  clear hlt hl
  go_enter Try.func67, Try.ntmps67
  go_wp2_with fail
  generalize w.alloc _ = w1 at *
  refine (next1 h1 hx).mono ?_
  rintro e w2 ⟨rfl, f2⟩
  have S2 := Lib.hid (h1.keep f2)
  have B2 := Lib.hid (b0.fr f2 b0.lt (by simp))
  have F2 := Lib.hid (f0.trans (f2.mono f0.size (by simp)))
  clear f0 b0 h1 f2 h hx
  have s8 := S2.out.st.cell 8
  have t1 := S2.out.pt.cell 1
  have z1 := S2.out.pt.frozen 1
  have b0 := B2.out.cell 0
  have b1 := B2.out.cell 1
  have b2 := B2.out.cell 2
  have y0 := B2.out.frozen 0
  have y1 := B2.out.frozen 1
  have y2 := B2.out.frozen 2
  have l1 := S2.out.st.lt
  have l2 := S2.out.pt.lt
  have l3 := B2.out.lt
  simp at s8 t1 b0 b1 b2
  go_wp2_with fail
  have S3 := S2.out.setAt ((at_ : Int) + 1)
  have hB3 : Blk (w2.setCell ⟨gp, 1, none⟩ (.int .i64 ((at_ : Int) + 1))) w.heap.size 64 rec0 := B2.out.far (by simp; omega) _
  have F3 : Fr w.heap.size [gp] w (w2.setCell ⟨gp, 1, none⟩ (.int .i64 ((at_ : Int) + 1))) := (F2.out.mono (B' := w.heap.size) (L' := [gp]) (Nat.le_refl _) (by simp)).setCell (.inr (by simp)) _
  have S4 := S3.fr (fr_set3 (g := w.heap.size) (Fr.refl (w2.setCell ⟨gp, 1, none⟩ (.int .i64 ((at_ : Int) + 1))).heap.size [w.heap.size] _) (.inr (by simp)) (.int .i64 (x 0)) (.int .i64 (x 1)) (.int .i64 (x 2))) (Nat.le_refl _) (by simp; omega) (by simp; omega) (fun b hb => by have := hvb b hb; simp; omega)
  have S5 := S4.keep ((Fr.refl _ _ _).alloc (Nat.le_refl _) (.cells (recA x) 64))
  exact bodyPost_ret (results_row_tmp rfl _ _ w.heap.size 64 (recA x) (0, 0) _ rfl ((blk_set3 hB3 (.int .i64 (x 0)) (.int .i64 (x 1)) (.int .i64 (x 2))).alloc (.cells (recA x) 64)) Try.underlying64 rfl (by kernel_rfl)) rfl ⟨rfl, S5, (fr_set3 F3 (.inl (Nat.le_refl _)) _ _ _).alloc (by have := F3.size; unfold set3; simp [World.setCell] at this ⊢; omega) _⟩
set_option maxRecDepth 100000 in
set_option maxHeartbeats 1000000 in
theorem seek1 {base gs gp : Nat} {l : List (Nat → Int)} {at_ : Int} {V : Value} {w : World} (h : Sr base gs gp l at_ V w) (a : Nat) (ha : a ≤ l.length) (A : Option Addr) (c : Nat) (hr : Reads w w.heap.size 1 A 1 [.int .i64 (a : Int)]) (hap : ∀ ad, A = some ad → ad.block ≠ gp) :
    Calls Try.prog 68 #[.pointer (some ⟨gs, 0, none⟩), .slice A 1 c] w fun e w' => e = .returned (.int .i64 0) ∧ Sr base gs gp l (a : Int) V w' ∧ Fr w.heap.size [gp] w w' := by
  obtain ⟨b1, o1, u, rfl, hb1, hu, hc1⟩ := hr.one (k := 0) (by omega)
  simp at hu
  subst hu
  have hbg : b1 ≠ gp := hap ⟨b1, o1, none⟩ rfl
  obtain ⟨A1, c1, rfl, _, _, _⟩ := ownsRow_shape h.own
  have s8 := h.st.cell 8
  have t0 := h.pt.cell 0
  have t1 := h.pt.cell 1
  have z1 := h.pt.frozen 1
  simp at s8 t0 t1
  have H := Lib.hid h
  have l1 := h.st.lt
  have l2 := h.pt.lt
  have hne := h.ne
  rw [Nat.add_zero] at hc1
  clear h hr hap
  obtain ⟨m, hm⟩ : ∃ m, m = l.length := ⟨_, rfl⟩
  rw [← hm] at t0 ha
  clear hm
  have hai : (a : Int) ≤ (m : Int) := by omega
  go_enter Try.func68, Try.ntmps68
  go_wp2_with fail
  go_loop [23] (fun i => ∃ k : Nat, k ≤ 1 ∧ i = .int .i64 k) (fun i => 1 - (intOf i).toNat)
  case atStart => exact ⟨0, by omega, rfl⟩
  case round =>
    obtain ⟨k, hk, rfl⟩ := hrel
    by_cases hk1 : k < 1
    · obtain rfl : k = 0 := by omega
      go_wp2_with fail
      go_round
      case rel => exact ⟨1, by omega, by go_num⟩
      case measure => simp [intOf]
    · obtain rfl : k = 1 := by omega
      go_wp2_with fail
      go_loopw [46] (fun i wr => (i = .int .i64 0 ∧ wr = w) ∨ (i = .int .i64 1 ∧ wr = w.setCell ⟨gp, 1, none⟩ (.int .i64 (a : Int)))) (fun i _ => 1 - (intOf i).toNat)
      case atStart => exact .inl ⟨rfl, rfl⟩
      case round =>
        rcases hrel with ⟨rfl, rfl⟩ | ⟨rfl, rfl⟩
        · go_wp2_with fail
          go_roundw
          case rel => exact .inr ⟨by go_num, trivial⟩
          case measure => simp [intOf]
        · go_wp2_with fail
          go_ret
          exact ⟨rfl, H.out.setAt (a : Int), (Fr.refl _ _ _).setCell (.inr (by simp)) _⟩
end Go.Proofs.Ytdkdhhfejbecdaa
