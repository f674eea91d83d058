/- The contracts of gauss.number, gauss.value and gauss.Add. -/
import Derived.Test.YtdkdhhfejbecdaaFloat
import Derived.Test.YtdkdhhfejbecdaaBy
import Derived.Deep.RegionWith
namespace Go.Proofs.Ytdkdhhfejbecdaa
open Go.RowKit Go.Fb
theorem cen_small (n : Int) : -524288 ≤ cen n ∧ cen n < 524288 := by unfold cen; omega
set_option maxRecDepth 100000 in
theorem number_any (re im : Int) (w : World) : Calls Try.prog 99 #[.agg #[.int .i64 re, .int .i64 im]] w fun e w' => e = .returned (.complex .f64 (floatOfInt .f64 (cen re)) (floatOfInt .f64 (cen im))) ∧ Fr w.heap.size [] w w' := by
  have HO := Lib.hid (gof_any re im)
  generalize cen re = a at *
  generalize cen im = b at *
  go_enter Try.func99, Try.ntmps99
  go_wp2_with fail
  refine (HO.out _).mono ?_
  rintro e w1 ⟨rfl, f1⟩
  have B1 := Lib.hid ((Blk.new w 32 #[.int .i64 re, .int .i64 im]).fr f1 (by simp) (by simp))
  have F1 := Lib.hid (((Fr.refl w.heap.size [] w).alloc (Nat.le_refl _) (.cells #[.int .i64 re, .int .i64 im] 32)).trans (f1.mono (B' := w.heap.size) (L' := []) (by simp) (by simp)))
  have x0 := B1.out.cell 0
  have x1 := B1.out.cell 1
  have z0 := B1.out.frozen 0
  have z1 := B1.out.frozen 1
  simp at x0 x1
  clear f1
  go_wp2_with fail
  go_ret
  exact ⟨rfl, (F1.out.setCell (p := ⟨w.heap.size, 0, none⟩) (.inl (Nat.le_refl _)) _).setCell (p := ⟨w.heap.size, 1, none⟩) (.inl (Nat.le_refl _)) _⟩
set_option maxRecDepth 100000 in
theorem value_any (a b : Int) (ha : a.natAbs < 2 ^ 53) (hb : b.natAbs < 2 ^ 53) (w : World) : Calls Try.prog 98 #[.complex .f64 (floatOfInt .f64 a) (floatOfInt .f64 b)] w fun e w' => e = .returned (.agg #[.int .i64 (cen a), .int .i64 (cen b)]) ∧ Fr w.heap.size [] w w' := by
  have HO := Lib.hid (gof_any a b)
  have c1 : ∀ w, (convert 171 3 (.float .f64 (floatOfInt .f64 a))).run Try.prog w = .ok (.int .i64 a) w := fun w => run_convert_float_int w _ _ .f64 .i64 _ a (by rw [Try.underlying171]; rfl) Try.underlying3 (float_int ha)
  have c2 : ∀ w, (convert 171 3 (.float .f64 (floatOfInt .f64 b))).run Try.prog w = .ok (.int .i64 b) w := fun w => run_convert_float_int w _ _ .f64 .i64 _ b (by rw [Try.underlying171]; rfl) Try.underlying3 (float_int hb)
  generalize floatOfInt .f64 a = fa at *
  generalize floatOfInt .f64 b = fb at *
  generalize cen a = x at *
  generalize cen b = y at *
  clear ha hb
  go_enter Try.func98, Try.ntmps98
  go_wp2_with fail
  refine (HO.out _).mono ?_
  rintro e w1 ⟨rfl, f1⟩
  have B1 := Lib.hid ((Blk.new w 32 #[.int .i64 0, .int .i64 0]).fr f1 (by simp) (by simp))
  have F1 := Lib.hid (((Fr.refl w.heap.size [] w).alloc (Nat.le_refl _) (.cells #[.int .i64 0, .int .i64 0] 32)).trans (f1.mono (B' := w.heap.size) (L' := []) (by simp) (by simp)))
  have x0 := B1.out.cell 0
  have x1 := B1.out.cell 1
  have z0 := B1.out.frozen 0
  have z1 := B1.out.frozen 1
  simp at x0 x1
  clear f1
  go_wp2_with fail
  exact bodyPost_ret (results_cell_row rfl _ _ w.heap.size 32 #[.int .i64 x, .int .i64 y] (0, 0) _ rfl ((B1.out.set_ 0 _).set_ 1 _) Try.underlying32 rfl (by kernel_rfl)) rfl ⟨rfl, (F1.out.setCell (p := ⟨w.heap.size, 0, none⟩) (.inl (Nat.le_refl _)) _).setCell (p := ⟨w.heap.size, 1, none⟩) (.inl (Nat.le_refl _)) _⟩
/-- The sum of two values, of values. -/
def addV (x y : Int × Int) : Int × Int := (cen (cen x.1 + cen y.1), cen (cen x.2 + cen y.2))
def sumV (l : List (Int × Int)) : Int × Int := l.foldl addV (0, 0)
theorem sumV_snoc (l : List (Int × Int)) (x : Int × Int) : sumV (l ++ [x]) = addV (sumV l) x := by unfold sumV; rw [List.foldl_append]; rfl
set_option maxRecDepth 100000 in
set_option maxHeartbeats 1000000 in
theorem gadd_any (A : Option Addr) (c B : Nat) (l : List (Int × Int)) (w : World) (hr : Reads w B 2 A l.length (cellsV l)) (hB : B ≤ w.heap.size) (hn : l.length ≤ 1000000) :
    Calls Try.prog 60 #[.slice A l.length c] w fun e w' => e = .returned (.agg #[.int .i64 (sumV l).1, .int .i64 (sumV l).2]) ∧ Fr w.heap.size [] w w' := by
  have HR := Lib.hid hr
  obtain ⟨n, hnl⟩ : ∃ n, n = l.length := ⟨_, rfl⟩
  have HN := Lib.hid hnl
  rw [← hnl] at hn ⊢
  clear hr hnl
  go_enter Try.func60, Try.ntmps60
  go_wp2_with fail
  have BR := Lib.hid ((Blk.new w 32 #[.int .i64 0, .int .i64 0]).alloc (.cells #[.int .i64 0, .int .i64 0] 32))
  have BO := Lib.hid (Blk.new (w.alloc (.cells #[.int .i64 0, .int .i64 0] 32)) 32 #[.int .i64 0, .int .i64 0])
  have F0 := Lib.hid (((Fr.refl w.heap.size [] w).alloc (Nat.le_refl _) (.cells #[.int .i64 0, .int .i64 0] 32)).alloc (by simp) (.cells #[.int .i64 0, .int .i64 0] 32))
  rw [World.size_alloc] at BO
  generalize (w.alloc _).alloc _ = w0 at *
  go_loopg [5, 8] n (fun g s5 s8 wr => ∃ k : Nat, k ≤ n ∧ g = n - k ∧ s8 = .int .i64 k ∧ (s5 = undef ∨ ∃ a, s5 = .pointer a) ∧ RowKit.Hid (Blk wr w.heap.size 32 #[.int .i64 0, .int .i64 0]) ∧ RowKit.Hid (Blk wr (w.heap.size + 1) 32 #[.int .i64 (sumV (l.take k)).1, .int .i64 (sumV (l.take k)).2]) ∧ RowKit.Hid (Fr w.heap.size [] w wr))
  case atStart => exact ⟨0, Nat.zero_le _, rfl, rfl, .inl rfl, BR, BO, F0⟩
  case round =>
    clear BR BO F0
    obtain ⟨k, hk, rfl, rfl, hs5, BR, BO, F⟩ := hrel
    by_cases hkn : k < n
    · have hki : (k : Int) < (n : Int) := by omega
      obtain ⟨x, hx⟩ : ∃ x, l[k]? = some x := ⟨_, List.getElem?_eq_getElem (by rw [← HN.out]; exact hkn)⟩
      obtain ⟨b, off, rfl, hb, p0, p1⟩ := reads_val (HR.out.fr F.out hB (by simp)) hx
      have HTK := Lib.hid (show sumV (l.take (k + 1)) = addV (sumV (l.take k)) x by rw [List.take_add_one, hx]; exact sumV_snoc _ _)
      clear hx
      obtain ⟨s, hs⟩ : ∃ s, s = sumV (l.take k) := ⟨_, rfl⟩
      rw [← hs] at BO HTK
      clear hs
      go_upto_region 5 with fail
      have BX := Lib.hid (Blk.new wr 32 #[.int .i64 x.1, .int .i64 x.2])
      have fa := (Fr.refl wr.heap.size [] wr).alloc (Nat.le_refl _) (.cells #[.int .i64 x.1, .int .i64 x.2] 32)
      have BO2 := Lib.hid (BO.out.fr fa BO.out.lt (by simp))
      have BR2 := Lib.hid (BR.out.fr fa BR.out.lt (by simp))
      have F2 := Lib.hid (F.out.trans (fa.mono F.out.size (by simp)))
      have hgx : w.heap.size + 1 < wr.heap.size := BO.out.lt
      clear fa BO BR F p0 p1
      generalize wr.alloc (.cells #[.int .i64 x.1, .int .i64 x.2] 32) = wa at *
      generalize wr.heap.size = gx at *
      have s1 := cen_small s.1
      have s2 := cen_small s.2
      have s3 := cen_small x.1
      have s4 := cen_small x.2
      have hadd : ∀ w, (binOp .add 145 (.complex .f64 (floatOfInt .f64 (cen s.1)) (floatOfInt .f64 (cen s.2))) (.complex .f64 (floatOfInt .f64 (cen x.1)) (floatOfInt .f64 (cen x.2)))).run Try.prog w = .ok (.complex .f64 (floatOfInt .f64 (cen s.1 + cen x.1)) (floatOfInt .f64 (cen s.2 + cen x.2))) w := fun w => run_complex_sum w .add (.inl rfl) _ .f64 _ _ _ _ _ _ (by
        unfold cSumBits
        rw [float_add (by omega) (by omega), float_add (by omega) (by omega)]
        rfl)
      have HV := Lib.hid (value_any (cen s.1 + cen x.1) (cen s.2 + cen x.2) (by omega) (by omega))
      obtain ⟨F, hF⟩ : ∃ F : Int → Nat, ∀ n, F n = floatOfInt .f64 (cen n) := ⟨_, fun _ => rfl⟩
      have HNM := Lib.hid (fun (p q : Int) (w : World) => (by rw [hF, hF]; exact number_any p q w : Calls Try.prog 99 #[.agg #[.int .i64 p, .int .i64 q]] w fun e w' => e = .returned (.complex .f64 (F p) (F q)) ∧ Fr w.heap.size [] w w'))
      rw [← hF, ← hF, ← hF, ← hF] at hadd
      obtain ⟨r, hr⟩ : ∃ r, r = addV s x := ⟨_, rfl⟩
      have HRV := Lib.hid hr
      have HV : RowKit.Hid (∀ w, Calls Try.prog 98 #[.complex .f64 (floatOfInt .f64 (cen s.1 + cen x.1)) (floatOfInt .f64 (cen s.2 + cen x.2))] w fun e w' => e = .returned (.agg #[.int .i64 r.1, .int .i64 r.2]) ∧ Fr w.heap.size [] w w') := by rw [hr]; exact HV
      rw [← hr] at HTK
      generalize floatOfInt .f64 (cen s.1 + cen x.1) = f5 at *
      generalize floatOfInt .f64 (cen s.2 + cen x.2) = f6 at *
      clear s1 s2 s3 s4 hr HRV hF
      have INV := Lib.hid ((Fr.refl wa.heap.size [] wa).drew)
      have o0 := BO2.out.cell 0
      have o1 := BO2.out.cell 1
      have x0 := BX.out.cell 0
      have x1 := BX.out.cell 1
      simp at o0 o1 x0 x1
      have z0 := BO2.out.frozen 0
      have z1 := BO2.out.frozen 1
      go_region_with
        (first
          | (go_at_call 99; refine (HNM.out _ _ _).mono ?_; rintro e w' ⟨rfl, hf⟩; have INV := Lib.hid (INV.out.trans (hf.mono INV.out.size (by simp))); have o0 := (BO2.out.fr INV.out BO2.out.lt (by simp)).cell 0; have o1 := (BO2.out.fr INV.out BO2.out.lt (by simp)).cell 1; have x0 := (BX.out.fr INV.out BX.out.lt (by simp)).cell 0; have x1 := (BX.out.fr INV.out BX.out.lt (by simp)).cell 1; simp at o0 o1 x0 x1; have z0 := (BO2.out.fr INV.out BO2.out.lt (by simp)).frozen 0; have z1 := (BO2.out.fr INV.out BO2.out.lt (by simp)).frozen 1; clear hf)
          | (go_at_call 98; refine (HV.out _).mono ?_; rintro e w' ⟨rfl, hf⟩; have INV := Lib.hid (INV.out.trans (hf.mono INV.out.size (by simp))); have o0 := (BO2.out.fr INV.out BO2.out.lt (by simp)).cell 0; have o1 := (BO2.out.fr INV.out BO2.out.lt (by simp)).cell 1; simp at o0 o1; have z0 := (BO2.out.fr INV.out BO2.out.lt (by simp)).frozen 0; have z1 := (BO2.out.fr INV.out BO2.out.lt (by simp)).frozen 1; clear hf))
      all_goals
        go_wp2_with fail
        have BR3 := Lib.hid (((BR2.out.fr INV.out BR2.out.lt (by simp)).far (p := ⟨w.heap.size + 1, 0, none⟩) (by simp) (.int .i64 r.1)).far (p := ⟨w.heap.size + 1, 1, none⟩) (by simp) (.int .i64 r.2))
        have BO3 := Lib.hid (((BO2.out.fr INV.out BO2.out.lt (by simp)).set_ 0 (.int .i64 r.1)).set_ 1 (.int .i64 r.2))
        have F3 := Lib.hid (((F2.out.trans (INV.out.mono F2.out.size (by simp))).setCell (p := ⟨w.heap.size + 1, 0, none⟩) (.inl (by simp)) (.int .i64 r.1)).setCell (p := ⟨w.heap.size + 1, 1, none⟩) (.inl (by simp)) (.int .i64 r.2))
        go_roundg (n - (k + 1))
        case measure => omega
        case rel => exact ⟨k + 1, by omega, rfl, by go_num, .inr ⟨_, rfl⟩, BR3, by rw [HTK.out]; exact BO3, F3⟩
    · obtain rfl : n = k := by omega
      rw [List.take_of_length_le (by rw [HN.out]; exact Nat.le_refl _)] at BO
      obtain ⟨s, hs⟩ : ∃ s, s = sumV l := ⟨_, rfl⟩
      rw [← hs] at BO
      have HSV := Lib.hid hs
      clear hs
      have x0 := BO.out.cell 0
      have x1 := BO.out.cell 1
      have y0 := BR.out.cell 0
      have y1 := BR.out.cell 1
      have z0 := BR.out.frozen 0
      have z1 := BR.out.frozen 1
      simp at x0 x1 y0 y1
      go_wp2_with fail
      exact bodyPost_ret (results_cell_row rfl _ _ w.heap.size 32 #[.int .i64 s.1, .int .i64 s.2] (0, 0) _ rfl ((BR.out.set_ 0 _).set_ 1 _) Try.underlying32 rfl (by kernel_rfl)) rfl ⟨by rw [← HSV.out], (F.out.setCell (p := ⟨w.heap.size, 0, none⟩) (.inl (Nat.le_refl _)) _).setCell (p := ⟨w.heap.size, 1, none⟩) (.inl (Nat.le_refl _)) _⟩
end Go.Proofs.Ytdkdhhfejbecdaa
