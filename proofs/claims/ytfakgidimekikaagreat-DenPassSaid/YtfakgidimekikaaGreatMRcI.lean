/- Texts merged into one, for the number of files a claim may have: RcI. -/
import Derived.Test.YtfakgidimekikaaGreatMSrcA
import Derived.Deep.DeepCutAuto
namespace Go.Proofs.YtfakgidimekikaaGreat
open Go.RowKit Go.Fb
set_option linter.unusedVariables false
set_option maxRecDepth 100000 in
set_option maxHeartbeats 1000000 in
theorem rcindex_any (F : FuncId) (cap : Array Value) (p : (Nat → Int) → Bool) (A : Option Addr) (c B n : Nat) (l : List (Nat → Int)) (w : World) (hent : ∀ (args : Array Value) (w : World), (callFunc F args).run Tryz.prog w = .ok (.enter F args) w)
    (hF : ∀ (x : Nat → Int) (w' : World), x ∈ l → Fr w.heap.size [] w w' → Calls Tryz.prog F (#[.agg #[.int .i64 (x 0), .int .i64 (x 1), .int .i64 (x 2)]] ++ cap) w' fun e w'' => e = .returned (.bool (p x)) ∧ Fr w'.heap.size [] w' w'')
    (hn : n = l.length) (hm : n ≤ 1000000) (hr : Reads w B 3 A n (cellsR l)) (hB : B ≤ w.heap.size) :
    Calls Tryz.prog 132 #[.slice A n c, .func (.func F) #[] cap] w fun e w' => ∃ i : Int, e = .returned (.int .i64 i) ∧ decide (0 ≤ i) = l.any p ∧ Fr w.heap.size [] w w' := by
  have HF := Lib.hid hF
  have HR := Lib.hid hr
  have HN := Lib.hid hn
  clear hF hr hn
  go_enter Tryz.func132, Tryz.ntmps132
  go_wp2_with fail
  go_loopg [8] n (fun g s8 wr => ∃ k : Nat, k ≤ n ∧ g = n - k ∧ s8 = .int .i64 k ∧ RowKit.Hid (∀ j y, j < k → l[j]? = some y → p y = false) ∧ RowKit.Hid (Fr w.heap.size [] w wr))
  case atStart => exact ⟨0, Nat.zero_le _, rfl, rfl, Lib.hid (fun j y h => absurd h (by omega)), Lib.hid (Fr.refl _ _ _)⟩
  case round =>
    obtain ⟨k, hk, rfl, rfl, HP, FR⟩ := hrel
    by_cases hkn : k < n
    · have hki : (k : Int) < (n : Int) := by omega
      have hk0 : (0 : Int) ≤ (k : Int) := by omega
      obtain ⟨x, hx⟩ : ∃ x, l[k]? = some x := ⟨_, List.getElem?_eq_getElem (by rw [← HN.out]; exact hkn)⟩
      obtain ⟨b, off, rfl, hb, hc⟩ := reads_rec (by rw [← HN.out]; exact HR.out.fr FR.out hB (by simp)) hx
      have p0 := hc 0 (by omega)
      have p1 := hc 1 (by omega)
      have p2 := hc 2 (by omega)
      simp only [Nat.add_zero, ← Nat.add_assoc] at p0 p1 p2
      have HC := HF.out x wr (List.mem_of_getElem? hx) FR.out
      have HX := Lib.hid hx
      clear hc hx
      obtain ⟨bb, hbb⟩ : ∃ b, b = p x := ⟨_, rfl⟩
      rw [← hbb] at HC
      have HC := Lib.hid HC
      have HPX := Lib.hid hbb
      clear hbb
      cases bb with
      | true =>
        go_wp2_with fail
        refine HC.out.mono ?_
        rintro e w2 ⟨rfl, f2⟩
        have F2 := Lib.hid (FR.out.trans (f2.mono (B' := w.heap.size) (L' := []) FR.out.size (by simp)))
        clear f2 HC
        go_wp2_with fail
        go_ret
        refine ⟨k, rfl, ?_, F2.out⟩
        rw [List.any_eq_true.2 ⟨x, List.mem_of_getElem? HX.out, HPX.out.symm⟩]
        simp
      | false =>
        go_wp2_with fail
        refine HC.out.mono ?_
        rintro e w2 ⟨rfl, f2⟩
        have F2 := Lib.hid (FR.out.trans (f2.mono (B' := w.heap.size) (L' := []) FR.out.size (by simp)))
        clear f2 HC
        go_wp2_with fail
        go_roundg (n - (k + 1))
        case measure => omega
        case rel =>
          refine ⟨k + 1, by omega, rfl, by go_num, Lib.hid fun j y hj hy => ?_, F2⟩
          rcases Nat.lt_or_ge j k with h | h
          · exact HP.out j y h hy
          · have : j = k := by omega
            subst this
            rw [HX.out] at hy
            injection hy with hy
            rw [← hy]
            exact HPX.out.symm
    · obtain rfl : k = n := by omega
      go_wp2_with fail
      go_ret
      refine ⟨-1, rfl, ?_, FR.out⟩
      symm
      rw [show decide ((0 : Int) ≤ -1) = false by simp, List.any_eq_false]
      intro x hx
      obtain ⟨j, hj, rfl⟩ := List.mem_iff_getElem.1 hx
      rw [HP.out j _ (by rw [HN.out]; exact hj) (List.getElem?_eq_getElem hj)]
      simp
set_option maxRecDepth 100000 in
theorem rccontains_any (F : FuncId) (cap : Array Value) (p : (Nat → Int) → Bool) (A : Option Addr) (c B n : Nat) (l : List (Nat → Int)) (w : World) (hent : ∀ (args : Array Value) (w : World), (callFunc F args).run Tryz.prog w = .ok (.enter F args) w)
    (hF : ∀ (x : Nat → Int) (w' : World), x ∈ l → Fr w.heap.size [] w w' → Calls Tryz.prog F (#[.agg #[.int .i64 (x 0), .int .i64 (x 1), .int .i64 (x 2)]] ++ cap) w' fun e w'' => e = .returned (.bool (p x)) ∧ Fr w'.heap.size [] w' w'')
    (hn : n = l.length) (hm : n ≤ 1000000) (hr : Reads w B 3 A n (cellsR l)) (hB : B ≤ w.heap.size) :
    Calls Tryz.prog 101 #[.slice A n c, .func (.func F) #[] cap] w fun e w' => e = .returned (.bool (l.any p)) ∧ Fr w.heap.size [] w w' := by
  have H := Lib.hid (rcindex_any F cap p A c B n l w hent hF hn hm hr hB)
  obtain ⟨b, hb⟩ : ∃ b, b = l.any p := ⟨_, rfl⟩
  rw [← hb] at H ⊢
  clear hF hn hr hb
  go_enter Tryz.func101, Tryz.ntmps101
  go_wp2_with fail
  refine H.out.mono ?_
  rintro e w1 ⟨i, rfl, hi, f1⟩
  have F1 := Lib.hid f1
  have HI := Lib.hid hi
  clear hi f1 H
  go_wp2_with fail
  go_ret
  exact ⟨by rw [← HI.out]; rfl, F1.out⟩
set_option maxRecDepth 100000 in
theorem flows1_any (x : Nat → Int) (w : World) : Calls Tryz.prog 102 #[.agg #[.int .i64 (x 0), .int .i64 (x 1), .int .i64 (x 2)]] w fun e w' => e = .returned (.bool (!recB (x 0) (x 1) (x 2))) ∧ Fr w.heap.size [] w w' := by
  have HC := Lib.hid (cellright_any (x 0) (x 1) (x 2))
  have fa := (Fr.refl w.heap.size [] w).alloc (Nat.le_refl _) (.cells #[.int .i64 (x 0), .int .i64 (x 1), .int .i64 (x 2)] 76)
  have BX := Lib.hid (Blk.new w 76 #[.int .i64 (x 0), .int .i64 (x 1), .int .i64 (x 2)])
  have FA := Lib.hid fa
  clear fa
  go_enter Tryz.func102, Tryz.ntmps102
  go_upto_region 1 with fail
  generalize w.alloc _ = w1 at *
  obtain ⟨gx, hgx⟩ : ∃ g, g = w.heap.size := ⟨_, rfl⟩
  rw [← hgx] at BX ⊢
  have HGX := Lib.hid hgx
  clear hgx
  have q0 := BX.out.cell 0
  have q1 := BX.out.cell 1
  have q2 := BX.out.cell 2
  simp at q0 q1 q2
  go_wp2_with fail
  refine (HC.out _).mono ?_
  rintro e w2 ⟨rfl, f2⟩
  have F2 := Lib.hid (FA.out.trans (f2.mono (B' := w.heap.size) (L' := []) FA.out.size (by simp)))
  clear f2
  go_wp2_with fail
  go_ret
  exact ⟨rfl, F2.out⟩
end Go.Proofs.YtfakgidimekikaaGreat
