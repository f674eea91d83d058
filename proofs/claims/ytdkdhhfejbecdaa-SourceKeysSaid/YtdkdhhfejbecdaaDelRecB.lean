/- slices.DeleteFunc on an owned row of records: the walk. -/
import Derived.Test.YtdkdhhfejbecdaaDelRec
namespace Go.Proofs.Ytdkdhhfejbecdaa
open Go.RowKit Go.Fb
theorem bool_not_not (b : Bool) : (!(!b)) = b := by cases b <;> rfl
set_option maxRecDepth 100000 in
set_option maxHeartbeats 2000000 in
theorem delrec_any (F : FuncId) (cap : Array Value) (p : (Nat → Int) → Bool) (base g c n : Nat) (l : List (Nat → Int)) (w : World) (hent : ∀ (args : Array Value) (w : World), (callFunc F args).run Try.prog w = .ok (.enter F args) w)
    (hF : ∀ (x : Nat → Int) (w' : World), Fr w.heap.size [g] w w' → Calls Try.prog F (#[.agg #[.int .i64 (x 0), .int .i64 (x 1), .int .i64 (x 2)]] ++ cap) w' fun e w'' => e = .returned (.bool (!p x)) ∧ Fr w'.heap.size [] w' w'')
    (hn : n = l.length) (hm : n ≤ 1000000) (hown : w.ownsRow base 64 3 (.slice (some ⟨g, 0, none⟩) n c) n (cellsR l)) :
    Calls Try.prog 76 #[.slice (some ⟨g, 0, none⟩) n c, .func (.func F) #[] cap] w fun e w' => ∃ k, k = (l.filter p).length ∧ e = .returned (.slice (some ⟨g, 0, none⟩) k c) ∧ Reads w' w'.heap.size 3 (some ⟨g, 0, none⟩) k (cellsR (l.filter p)) ∧ Fr w.heap.size [g] w w' := by
  have HF := Lib.hid hF
  have HI := Lib.hid (rindex_any F cap p (some ⟨g, 0, none⟩) c w.heap.size n l w hent (fun x w' h => hF x w' (h.mono (Nat.le_refl _) (by simp))) hn hm (Reads.of_own hown) (Nat.le_refl _))
  have HO := Lib.hid hown
  have HN := Lib.hid hn
  have hlt := (hown.lt g rfl).2
  obtain ⟨_, _, he, _, hcap, _⟩ := ownsRow_shape hown
  injection he with he1 _ he2
  subst he1
  subst he2
  clear hF hown hn
  go_enter Try.func76, Try.ntmps76
  go_wp2_with fail
  refine HI.out.mono ?_
  rintro e w1 ⟨i0, rfl, hi, f1⟩
  have HO1 := Lib.hid (ownsRow_fr HO.out f1 (fun q hq => ⟨(HO.out.lt q hq).2, by simp⟩))
  have F1 := Lib.hid (f1.mono (B' := w.heap.size) (L' := [g]) (Nat.le_refl _) (by simp))
  have h1s := f1.size
  clear f1 HI HO
  rcases hi with ⟨rfl, hall⟩ | ⟨k, x, rfl, hx, hpx, hbe⟩
  · have hf : l.filter p = l := List.filter_eq_self.2 hall
    have HFL := Lib.hid hf
    clear hall hf
    go_wp2_with fail
    go_ret
    exact ⟨n, by rw [HFL.out]; exact HN.out, rfl, by rw [HFL.out]; exact Reads.of_own HO1.out, F1.out⟩
  · have HD := Lib.hid (Del.start hx hpx hbe)
    have hkn : k < n := by rw [HN.out]; have := HD.out.lt; omega
    have hkm : decide ((k : Int) = -1) = false := decide_eq_false (by omega)
    have hkm2 : ((k : Int) == -1) = false := by simp
    clear hx hpx hbe
    go_wp2_with fail
    go_loopg [5, 6] (n - (k + 1)) (fun m s5 s6 wr => ∃ (i j : Nat) (ys : List (Nat → Int)), j ≤ n ∧ i < j ∧ m = n - j ∧ s5 = .int .i64 i ∧ s6 = .int .i64 j ∧ RowKit.Hid (Del p l ys i j) ∧ RowKit.Hid (wr.ownsRow base 64 3 (.slice (some ⟨g, 0, none⟩) n c) n (cellsR ys)) ∧ RowKit.Hid (Fr w.heap.size [g] w wr))
    case atStart => exact ⟨k, k + 1, l, by omega, by omega, rfl, rfl, by go_num, HD, HO1, F1⟩
    case round =>
      clear HD HO1 F1
      obtain ⟨i, j, ys, hj, hij, rfl, rfl, rfl, HD, HO, FR⟩ := hrel
      by_cases hjn : j < n
      · have hji : (j : Int) < (n : Int) := by omega
        have hj0 : (0 : Int) ≤ (j : Int) := by omega
        have hii : (i : Int) < (n : Int) := by omega
        have hi0 : (0 : Int) ≤ (i : Int) := by omega
        obtain ⟨x, hx⟩ : ∃ x, l[j]? = some x := ⟨_, List.getElem?_eq_getElem (by rw [← HN.out]; exact hjn)⟩
        have hrl := Reads.of_own HO.out
        have hyl : n = ys.length := by rw [HD.out.len]; exact HN.out
        rw [hyl] at hrl
        obtain ⟨b1, o1, hA, hb1, hc1⟩ := reads_rec hrl (HD.out.get hx)
        injection hA with hA
        injection hA with hA1 hA2 _
        subst hA1
        subst hA2
        have p0 := hc1 0 (by omega)
        have p1 := hc1 1 (by omega)
        have p2 := hc1 2 (by omega)
        simp only [Nat.add_zero, Nat.zero_add] at p0 p1 p2
        have HX := Lib.hid hx
        have HYL := Lib.hid hyl
        clear hc1 hrl hx hyl
        go_upto_region 8 with fail
        have fa := (Fr.refl wr.heap.size [] wr).alloc (Nat.le_refl _) (.cells #[.int .i64 (x 0), .int .i64 (x 1), .int .i64 (x 2)] 64)
        have BX := Lib.hid (Blk.new wr 64 #[.int .i64 (x 0), .int .i64 (x 1), .int .i64 (x 2)])
        have HOa := Lib.hid (ownsRow_fr HO.out fa (fun q hq => ⟨(HO.out.lt q hq).2, by simp⟩))
        have FRa := Lib.hid (FR.out.trans (fa.mono (B' := w.heap.size) (L' := [g]) FR.out.size (by simp)))
        have hgx : g ≠ wr.heap.size := by have := (HO.out.lt g rfl).2; omega
        clear fa HO FR p0 p1 p2 hb1
        generalize wr.alloc (.cells #[.int .i64 (x 0), .int .i64 (x 1), .int .i64 (x 2)] 64) = wa at *
        generalize wr.heap.size = gx at *
        have x0 := BX.out.cell 0
        have x1 := BX.out.cell 1
        have x2 := BX.out.cell 2
        simp at x0 x1 x2
        have HC := HF.out x wa FRa.out
        cases hpx : p x with
        | false =>
          rw [hpx] at HC
          have HC := Lib.hid HC
          have HD1 := Lib.hid (HD.out.skip HX.out hpx)
          clear hpx
          go_wp2_with fail
          refine HC.out.mono ?_
          rintro e w2 ⟨rfl, f2⟩
          have HO2 := Lib.hid (ownsRow_fr HOa.out f2 (fun q hq => ⟨(HOa.out.lt q hq).2, by simp⟩))
          have F2 := Lib.hid (FRa.out.trans (f2.mono (B' := w.heap.size) (L' := [g]) FRa.out.size (by simp)))
          clear f2 HC
          go_wp2_with fail
          go_roundg (n - (j + 1))
          case measure => omega
          case rel => exact ⟨i, j + 1, ys, by omega, by omega, rfl, rfl, by go_num, HD1, HO2, F2⟩
        | true =>
          rw [hpx] at HC
          have HC := Lib.hid HC
          have HD1 := Lib.hid (HD.out.take HX.out hpx)
          have HCS := Lib.hid (cellsR_set ys i x (by rw [← HYL.out]; omega))
          clear hpx
          go_wp2_with fail
          refine HC.out.mono ?_
          rintro e w2 ⟨rfl, f2⟩
          have HO2 := Lib.hid (ownsRow_fr HOa.out f2 (fun q hq => ⟨(HOa.out.lt q hq).2, by simp⟩))
          have BX2 := Lib.hid (BX.out.fr f2 BX.out.lt (by simp))
          have F2 := Lib.hid (FRa.out.trans (f2.mono (B' := w.heap.size) (L' := [g]) FRa.out.size (by simp)))
          clear f2 HC x0 x1 x2
          have x0 := BX2.out.cell 0
          have x1 := BX2.out.cell 1
          have x2 := BX2.out.cell 2
          simp at x0 x1 x2
          obtain ⟨y, hy⟩ : ∃ y, ys[i]? = some y := ⟨_, List.getElem?_eq_getElem (by rw [← HYL.out]; omega)⟩
          have hr2 := Reads.of_own HO2.out
          rw [HYL.out] at hr2
          obtain ⟨b3, o3, hA3, _, hc3⟩ := reads_rec hr2 hy
          injection hA3 with hA3
          injection hA3 with hA1 hA2 _
          subst hA1
          subst hA2
          have y0 := hc3 0 (by omega)
          have y1 := hc3 1 (by omega)
          have y2 := hc3 2 (by omega)
          simp only [Nat.add_zero, Nat.zero_add] at y0 y1 y2
          clear hr2 hc3 hy
          have z0 := HO2.out.frozenAt (i * 3)
          have z1 := HO2.out.frozenAt (i * 3 + 1)
          have z2 := HO2.out.frozenAt (i * 3 + 2)
          go_wp2_with fail
          have HO5 := Lib.hid (ownsRow_setS (ownsRow_setS (ownsRow_setS HO2.out (i * 3) (.int .i64 (x 0))) (i * 3 + 1) (.int .i64 (x 1))) (i * 3 + 2) (.int .i64 (x 2)))
          have F5 := Lib.hid (((F2.out.setCell (p := ⟨g, i * 3, none⟩) (.inr (by simp)) (.int .i64 (x 0))).setCell (p := ⟨g, i * 3 + 1, none⟩) (.inr (by simp)) (.int .i64 (x 1))).setCell (p := ⟨g, i * 3 + 2, none⟩) (.inr (by simp)) (.int .i64 (x 2)))
          go_roundg (n - (j + 1))
          case measure => omega
          case rel => exact ⟨i + 1, j + 1, ys.set i x, by omega, by omega, rfl, by go_num, by go_num, HD1, by rw [HCS.out]; exact HO5, F5⟩
      · obtain rfl : n = j := by omega
        have hdn := HD.out
        rw [HN.out] at hdn
        obtain ⟨hd1, hd2⟩ := hdn.done
        have HD1 := Lib.hid hd1
        have HD2 := Lib.hid hd2
        obtain ⟨wz, hcl, hrz, hfz⟩ := run_clear_recs (i := i) (by rw [HD.out.len]; exact HN.out) HO.out (by omega) 0 (c - i)
        have HRZ := Lib.hid hrz
        have FZ := Lib.hid (FR.out.trans (hfz.mono (B' := w.heap.size) (L' := [g]) FR.out.size (by simp)))
        have hi0 : (0 : Int) ≤ (i : Int) := by omega
        have hin : (i : Int) ≤ (n : Int) := by omega
        have hic : (i : Int) ≤ (c : Int) := by omega
        have hci : ¬ c = i := by omega
        clear hdn hd1 hd2 hrz hfz HD HO FR
        go_wp2_with fail
        go_ret
        exact ⟨i, HD2.out, rfl, by rw [← HD1.out]; exact HRZ.out, FZ.out⟩
set_option maxRecDepth 100000 in
theorem delrec_nil (F : FuncId) (cap : Array Value) (p : (Nat → Int) → Bool) (A : Option Addr) (c : Nat) (w : World) (hent : ∀ (args : Array Value) (w : World), (callFunc F args).run Try.prog w = .ok (.enter F args) w)
    (hF : ∀ (x : Nat → Int) (w' : World), Fr w.heap.size [] w w' → Calls Try.prog F (#[.agg #[.int .i64 (x 0), .int .i64 (x 1), .int .i64 (x 2)]] ++ cap) w' fun e w'' => e = .returned (.bool (!p x)) ∧ Fr w'.heap.size [] w' w'') :
    Calls Try.prog 76 #[.slice A 0 c, .func (.func F) #[] cap] w fun e w' => e = .returned (.slice A 0 c) ∧ Fr w.heap.size [] w w' := by
  have HI := Lib.hid (rindex_any F cap p A c w.heap.size 0 [] w hent hF rfl (by omega) ⟨rfl, fun h => absurd h (by omega)⟩ (Nat.le_refl _))
  clear hF
  go_enter Try.func76, Try.ntmps76
  go_wp2_with fail
  refine HI.out.mono ?_
  rintro e w1 ⟨i0, rfl, hi, f1⟩
  have F1 := Lib.hid f1
  obtain rfl : i0 = -1 := by
    rcases hi with ⟨h, _⟩ | ⟨k, x, _, h, _⟩
    · exact h
    · simp at h
  clear hi f1 HI
  go_wp2_with fail
  go_ret
  exact ⟨rfl, F1.out⟩
end Go.Proofs.Ytdkdhhfejbecdaa
