/- The contracts of slices.ContainsFunc on numbers, and of graph.route. -/
import Derived.Test.YtddngibfhklnfaaNdA
import Derived.Test.YtddngibfhklnfaaRouteA
namespace Go.Proofs.Ytddngibfhklnfaa
open Go.RowKit Go.Fb
set_option maxRecDepth 100000 in
theorem jindex_any (F : FuncId) (cap : Array Value) (p : Int → Bool) (A : Option Addr) (c B n : Nat) (l : List Int) (w : World) (hent : ∀ (args : Array Value) (w : World), (callFunc F args).run Try.prog w = .ok (.enter F args) w)
    (hF : ∀ (x : Int) (w' : World), x ∈ l → Fr w.heap.size [] w w' → Calls Try.prog F (#[.int .i64 x] ++ cap) w' fun e w'' => e = .returned (.bool (p x)) ∧ Fr w'.heap.size [] w' w'')
    (hn : n = l.length) (hm : n ≤ 1000000) (hr : Reads w B 1 A n (l.map (Value.int .i64))) (hB : B ≤ w.heap.size) :
    Calls Try.prog 85 #[.slice A n c, .func (.func F) #[] cap] w fun e w' => ∃ i : Int, e = .returned (.int .i64 i) ∧ decide (0 ≤ i) = l.any p ∧ Fr w.heap.size [] w w' := by
  have HF := Lib.hid hF
  have HR := Lib.hid hr
  have HN := Lib.hid hn
  clear hF hr hn
  go_enter Try.func85, Try.ntmps85
  go_wp2_with fail
  go_loopg [8] n (fun g s8 wr => ∃ k : Nat, k ≤ n ∧ g = n - k ∧ s8 = .int .i64 k ∧ RowKit.Hid (∀ j y, j < k → l[j]? = some y → p y = false) ∧ RowKit.Hid (Fr w.heap.size [] w wr))
  case atStart => exact ⟨0, Nat.zero_le _, rfl, rfl, Lib.hid (fun j y h => absurd h (by omega)), Lib.hid (Fr.refl _ _ _)⟩
  case round =>
    obtain ⟨k, hk, rfl, rfl, HP, FR⟩ := hrel
    by_cases hkn : k < n
    · have hki : (k : Int) < (n : Int) := by omega
      have hk0 : (0 : Int) ≤ (k : Int) := by omega
      obtain ⟨x, hx⟩ : ∃ x, l[k]? = some x := ⟨_, List.getElem?_eq_getElem (by rw [← HN.out]; exact hkn)⟩
      obtain ⟨b1, o1, u, rfl, hb1, hu, q1⟩ := (HR.out.fr FR.out hB (by simp)).one hkn
      rw [List.getElem?_map, hx] at hu
      injection hu with hu
      subst hu
      have HC := HF.out x wr (List.mem_of_getElem? hx) FR.out
      have HX := Lib.hid hx
      clear hx
      obtain ⟨b, hb⟩ : ∃ b, b = p x := ⟨_, rfl⟩
      rw [← hb] at HC
      have HC := Lib.hid HC
      have HPX := Lib.hid hb
      clear hb
      cases b with
      | true =>
        go_wp2_with fail
        refine HC.out.mono ?_
        rintro e w2 ⟨rfl, f2⟩
        have F2 := Lib.hid (FR.out.trans (f2.mono (B' := w.heap.size) (L' := []) FR.out.size (by simp)))
        clear f2 HC
        go_wp2_with fail
        go_ret
        refine ⟨k, rfl, ?_, F2.out⟩
        rw [decide_eq_true hk0]
        exact (List.any_eq_true.2 ⟨x, List.mem_of_getElem? HX.out, HPX.out.symm⟩).symm
      | false =>
        go_wp2_with fail
        refine HC.out.mono ?_
        rintro e w2 ⟨rfl, f2⟩
        have F2 := Lib.hid (FR.out.trans (f2.mono (B' := w.heap.size) (L' := []) FR.out.size (by simp)))
        clear f2 HC
        go_wp2_with fail
        go_roundg (n - (k + 1))
        case measure => omega
        case rel =>
          refine ⟨k + 1, by omega, rfl, by go_num, Lib.hid fun j y hj hy => ?_, F2⟩
          rcases Nat.lt_or_ge j k with h | h
          · exact HP.out j y h hy
          · have : j = k := by omega
            subst this
            rw [HX.out] at hy
            injection hy with hy
            rw [← hy]
            exact HPX.out.symm
    · obtain rfl : k = n := by omega
      go_wp2_with fail
      go_ret
      refine ⟨-1, rfl, ?_, FR.out⟩
      symm
      rw [show decide ((0 : Int) ≤ -1) = false from rfl, List.any_eq_false]
      intro x hx
      obtain ⟨j, hj, rfl⟩ := List.mem_iff_getElem.1 hx
      rw [HP.out j _ (by rw [HN.out]; exact hj) (List.getElem?_eq_getElem hj)]
      simp
set_option maxRecDepth 100000 in
theorem jcontains_any (F : FuncId) (cap : Array Value) (p : Int → Bool) (A : Option Addr) (c B n : Nat) (l : List Int) (w : World) (hent : ∀ (args : Array Value) (w : World), (callFunc F args).run Try.prog w = .ok (.enter F args) w)
    (hF : ∀ (x : Int) (w' : World), x ∈ l → Fr w.heap.size [] w w' → Calls Try.prog F (#[.int .i64 x] ++ cap) w' fun e w'' => e = .returned (.bool (p x)) ∧ Fr w'.heap.size [] w' w'')
    (hn : n = l.length) (hm : n ≤ 1000000) (hr : Reads w B 1 A n (l.map (Value.int .i64))) (hB : B ≤ w.heap.size) :
    Calls Try.prog 51 #[.slice A n c, .func (.func F) #[] cap] w fun e w' => e = .returned (.bool (l.any p)) ∧ Fr w.heap.size [] w w' := by
  have H := Lib.hid (jindex_any F cap p A c B n l w hent hF hn hm hr hB)
  obtain ⟨b, hb⟩ : ∃ b, b = l.any p := ⟨_, rfl⟩
  rw [← hb] at H ⊢
  clear hF hn hr hb
  go_enter Try.func51, Try.ntmps51
  go_wp2_with fail
  refine H.out.mono ?_
  rintro e w1 ⟨i, rfl, hi, f1⟩
  have F1 := Lib.hid f1
  have HI := Lib.hid hi
  clear hi f1 H
  go_wp2_with fail
  go_ret
  exact ⟨by rw [← HI.out]; rfl, F1.out⟩
set_option maxRecDepth 100000 in
theorem badtask_any (k : Int) (gx : Nat) (x : Nd) (sf sp : Value) (w : World) (hb : Blk w gx 38 (ndA x sf sp)) : Calls Try.prog 96 #[.int .i64 k, .pointer (some ⟨gx, 0, none⟩)] w fun e w' => e = .returned (.bool (decide (k < 0) || decide (x.par ≤ k))) ∧ Fr w.heap.size [] w w' := by
  have c4 := hb.cell 4
  simp at c4
  by_cases h1 : k < 0
  · have hd : decide (k < 0) = true := decide_eq_true h1
    rw [hd, Bool.true_or]
    clear hb
    go_enter Try.func96, Try.ntmps96
    go_wp2_with fail
    go_ret
    exact ⟨rfl, Fr.refl _ _ _⟩
  · have hd : decide (k < 0) = false := decide_eq_false h1
    rw [hd, Bool.false_or]
    obtain ⟨b, hbv⟩ : ∃ b, b = decide (x.par ≤ k) := ⟨_, rfl⟩
    have HB := Lib.hid hbv
    rw [← hbv]
    clear hb hbv
    go_enter Try.func96, Try.ntmps96
    go_wp2_with fail
    go_ret
    exact ⟨by rw [HB.out]; rfl, Fr.refl _ _ _⟩
def rtL (r : Nat → Int) : List Int := (List.range 8).map r
theorem rt_any (par : Int) (r : Nat → Int) : (!(rtL r).any fun k => decide (k < 0) || decide (par ≤ k)) = inTo par r 8 := by
  unfold rtL inTo
  rw [List.any_map, List.not_any_eq_all_not]
  congr 1
  funext k
  simp only [Function.comp]
  by_cases h1 : r k < 0 <;> by_cases h2 : par ≤ r k <;> simp [h1, h2] <;> omega
set_option maxRecDepth 100000 in
theorem nroute_any (x : Nd) (sf sp : Value) (w : World) : Calls Try.prog 80 #[.agg (ndA x sf sp)] w fun e w' => e = .returned (.bool (right8 x.par x.rt)) ∧ Fr w.heap.size [] w w' := by
  have BX := Lib.hid (Blk.new w 38 (ndA x sf sp))
  have F1 := Lib.hid ((Fr.refl w.heap.size [] w).alloc (Nat.le_refl _) (.cells (ndA x sf sp) 38))
  have hent := enters_of Try.func96 (by kernel_rfl) rfl
  have HRT := Lib.hid (rt_any x.par x.rt)
  obtain ⟨b, hb⟩ : ∃ b, b = right8 x.par x.rt := ⟨_, rfl⟩
  have HB := Lib.hid hb
  rw [← hb]
  clear hb
  go_enter Try.func80, Try.ntmps80
  go_upto_region 2 with fail
  generalize w.alloc (.cells (ndA x sf sp) 38) = w1 at *
  have c4 := BX.out.cell 4
  simp at c4
  by_cases h1 : 1 ≤ x.par
  · by_cases h3 : x.par ≤ 3
    · have hrd : Reads w1 w1.heap.size 1 (some ⟨w.heap.size, 5, none⟩) 8 ((rtL x.rt).map (Value.int .i64)) := by
        refine ⟨rfl, fun _ => ⟨w.heap.size, 5, rfl, BX.out.lt, fun j u hu => ?_⟩⟩
        rw [BX.out.cell]
        have hj : j < 8 := by
          rcases Nat.lt_or_ge j 8 with h | h
          · exact h
          · rw [List.getElem?_eq_none (by simp [rtL]; omega)] at hu; cases hu
        match j, hj with
        | 0, _ => simpa [rtL] using hu
        | 1, _ => simpa [rtL] using hu
        | 2, _ => simpa [rtL] using hu
        | 3, _ => simpa [rtL] using hu
        | 4, _ => simpa [rtL] using hu
        | 5, _ => simpa [rtL] using hu
        | 6, _ => simpa [rtL] using hu
        | 7, _ => simpa [rtL] using hu
      have HC := jcontains_any 96 #[.pointer (some ⟨w.heap.size, 0, none⟩)] (fun k => decide (k < 0) || decide (x.par ≤ k)) (some ⟨w.heap.size, 5, none⟩) 8 w1.heap.size 8 (rtL x.rt) w1 hent (fun k w' _ hf => badtask_any k w.heap.size x sf sp w' (BX.out.fr hf BX.out.lt (by simp))) rfl (by omega) hrd (Nat.le_refl _)
      have hbb : b = !(rtL x.rt).any fun k => decide (k < 0) || decide (x.par ≤ k) := by
        rw [HRT.out, HB.out, right8, decide_eq_true ⟨h1, h3⟩, Bool.true_and]
      generalize (rtL x.rt).any (fun k => decide (k < 0) || decide (x.par ≤ k)) = a at HC hbb
      have HC := Lib.hid HC
      have HBB := Lib.hid hbb
      clear hbb hrd
      go_wp2_with fail
      refine HC.out.mono ?_
      rintro e w2 ⟨rfl, f2⟩
      have F2 := Lib.hid (F1.out.trans (f2.mono (B' := w.heap.size) (L' := []) F1.out.size (by simp)))
      clear f2 HC
      go_wp2_with fail
      go_ret
      exact ⟨by rw [HBB.out]; rfl, F2.out⟩
    · have hb : b = false := by rw [HB.out, right8, decide_eq_false (by omega), Bool.false_and]
      have hd1 : decide (1 ≤ x.par) = true := decide_eq_true h1
      have hd3 : decide (x.par ≤ 3) = false := decide_eq_false h3
      have HBF := Lib.hid hb
      clear hb
      go_wp2_with fail
      go_ret
      exact ⟨by rw [HBF.out]; rfl, F1.out⟩
  · have hb : b = false := by rw [HB.out, right8, decide_eq_false (by omega), Bool.false_and]
    have hd1 : decide (1 ≤ x.par) = false := decide_eq_false h1
    have HBF := Lib.hid hb
    clear hb
    go_wp2_with fail
    go_ret
    exact ⟨by rw [HBF.out]; rfl, F1.out⟩
end Go.Proofs.Ytddngibfhklnfaa
