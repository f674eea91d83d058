/- The contract of forebayref19.Put. -/
import Derived.Test.YtkmpcddhbdndkaaItemA
namespace Go.Proofs.Ytkmpcddhbdndkaa
open Go.RowKit Go.Fb
/-- Bytes, and whether there are any, the document's way. -/
def RetRef (o : Option (List Int)) (w : World) (e : Ending) (w' : World) : Prop := e = .returned (.tuple #[.string (putS o), .bool o.isSome]) ∧ Fr w.heap.size [] w w'
/-- A number's four bytes. -/
def sbe (n : Int) : ByteArray := strOfNums (be n)
theorem put_fit {n : Int} (h : fitsB n = true) (w : World) : Calls Try.prog 80 #[.int .i64 n] w fun e w' => e = .returned (.string (sbe n)) ∧ Fr w.heap.size [] w w' := by
  have hb := of_decide_eq_true h
  refine (put_any n w (by omega) (by omega)).mono ?_
  rintro e w' ⟨s, rfl, _, h2, h3⟩
  exact ⟨by rw [h2 h]; rfl, h3⟩
theorem be_size (n : Int) : (sbe n).size = 4 := by unfold sbe; rw [strOfNums_size]; rfl
set_option maxRecDepth 100000 in
set_option maxHeartbeats 1000000 in
theorem rput_any (b : Bool) (k re im ep : Int) (p : Bool) (w : World) : Calls Try.prog 41 #[.bool b, .agg #[.int .i64 k, .int .i64 re, .int .i64 im], .int .i64 ep, .bool p] w (RetRef (putI b k re im ep p) w) := by
  cases b
  · have HC := Lib.hid (rrec_any k re im)
    rcases Bool.eq_false_or_eq_true (recB k re im) with hR | hR
    case' inr =>
      have hv : putI false k re im ep p = none := by simp [putI, hR]
      rw [hv]
      rw [hR] at HC
      clear hv hR
      go_enter Try.func41, Try.ntmps41
      go_wp2_with fail
      refine (HC.out _).mono ?_
      rintro e w1 ⟨rfl, f1⟩
      have F1 := Lib.hid f1
      clear f1
      go_wp2_with fail
      go_ret2
      exact ⟨rfl, ((Fr.refl _ _ _).alloc (Nat.le_refl _) _).trans (F1.out.mono (by simp) (by simp))⟩
    have hv : putI false k re im ep p = some (82 :: (be k ++ (be re ++ be im))) := by simp [putI, hR]
    rw [hv]
    rw [hR] at HC
    obtain ⟨hf1, hf2, hf3⟩ := recB_fits hR
    have s1 := be_size k
    have s2 := be_size re
    have s3 := be_size im
    have hst : (⟨#[82]⟩ : ByteArray) ++ sbe k ++ sbe re ++ sbe im = putS (some (82 :: (be k ++ (be re ++ be im)))) := by
      unfold sbe
      rw [str_cons, str_app, str_app]
      simp [putS]
    have HST := Lib.hid hst
    clear hv hR hst
    go_enter Try.func41, Try.ntmps41
    go_wp2_with fail
    have bi := Blk.new w 59 #[.int .i64 k, .int .i64 re, .int .i64 im]
    have fw := (Fr.refl w.heap.size [] w).alloc (Nat.le_refl _) (.cells #[.int .i64 k, .int .i64 re, .int .i64 im] 59)
    generalize w.alloc _ = w2 at *
    refine (HC.out _).mono ?_
    rintro e w3 ⟨rfl, f3⟩
    have INV : RowKit.Hid (Blk w3.drew w.heap.size 59 #[.int .i64 k, .int .i64 re, .int .i64 im] ∧ Fr w.heap.size [] w w3.drew) := ⟨(bi.fr f3 bi.lt (by simp)).drew, (fw.trans (f3.mono fw.size (by simp))).drew⟩
    clear bi fw f3
    have l1 := Nat.le_of_eq s1
    have l2 := Nat.le_of_eq s2
    have l3 := Nat.le_of_eq s3
    go_wp2_with fail
    go_region_held3 (fun wx => wx.cell? ⟨w.heap.size, 0, none⟩ = some (.int .i64 k) ∧ wx.cell? ⟨w.heap.size, 1, none⟩ = some (.int .i64 re) ∧ wx.cell? ⟨w.heap.size, 2, none⟩ = some (.int .i64 im)) (exact ⟨INV.out.1.cell 0, INV.out.1.cell 1, INV.out.1.cell 2⟩)
      ((go_at_call 80; refine (put_fit (by assumption) _).mono ?_; rintro e w' ⟨rfl, hf⟩; have INV : RowKit.Hid (Blk w' w.heap.size 59 #[.int .i64 k, .int .i64 re, .int .i64 im] ∧ Fr w.heap.size [] w w') := ⟨INV.out.1.fr hf INV.out.1.lt (by simp), INV.out.2.trans (hf.mono INV.out.2.size (by simp))⟩; clear hf))
    all_goals
      go_wp2_with fail
      go_ret2
      exact ⟨by rw [← HST.out]; rfl, INV.out.2⟩
  · by_cases h1 : ep < 0
    · have hv : putI true k re im ep p = none := by simp [putI]; omega
      rw [hv]
      clear hv
      go_enter Try.func41, Try.ntmps41
      go_wp2_with fail
      go_ret2
      exact ⟨rfl, (Fr.refl _ _ _).alloc (Nat.le_refl _) _⟩
    by_cases h2 : 2147483647 < ep
    · have hv : putI true k re im ep p = none := by simp [putI]; omega
      rw [hv]
      clear hv
      go_enter Try.func41, Try.ntmps41
      go_wp2_with fail
      go_ret2
      exact ⟨rfl, (Fr.refl _ _ _).alloc (Nat.le_refl _) _⟩
    have hv : putI true k re im ep p = some (66 :: (be ep ++ be (if p then 1 else 0))) := by simp [putI]; omega
    rw [hv]
    have hfe : fitsB ep = true := by simp [fitsB]; omega
    have P1 := Lib.hid (put_fit hfe)
    have s1 := be_size ep
    clear hv hfe
    cases p
    · have P2 := Lib.hid (put_fit (show fitsB 0 = true from rfl))
      have s2 := be_size 0
      have hst : (⟨#[66]⟩ : ByteArray) ++ sbe ep ++ sbe 0 = putS (some (66 :: (be ep ++ be 0))) := by
        unfold sbe
        rw [str_cons, str_app]
        simp [putS]
      have HST := Lib.hid hst
      clear hst
      have l1 := Nat.le_of_eq s1
      have l2 := Nat.le_of_eq s2
      go_enter Try.func41, Try.ntmps41
      go_wp2_with fail
      have fw := Lib.hid ((Fr.refl w.heap.size [] w).alloc (Nat.le_refl _) (.cells #[.int .i64 k, .int .i64 re, .int .i64 im] 59))
      generalize w.alloc _ = w2 at *
      refine (P1.out _).mono ?_
      rintro e w3 ⟨rfl, f3⟩
      have F3 := Lib.hid (fw.out.trans (f3.mono fw.out.size (by simp)))
      clear f3
      go_wp2_with fail
      refine (P2.out _).mono ?_
      rintro e w4 ⟨rfl, f4⟩
      have F4 := Lib.hid (F3.out.trans (f4.mono F3.out.size (by simp)))
      clear f4
      go_wp2_with fail
      go_ret2
      exact ⟨by rw [← HST.out]; rfl, F4.out⟩
    · have P2 := Lib.hid (put_fit (show fitsB 1 = true from rfl))
      have s2 := be_size 1
      have hst : (⟨#[66]⟩ : ByteArray) ++ sbe ep ++ sbe 1 = putS (some (66 :: (be ep ++ be 1))) := by
        unfold sbe
        rw [str_cons, str_app]
        simp [putS]
      have HST := Lib.hid hst
      clear hst
      have l1 := Nat.le_of_eq s1
      have l2 := Nat.le_of_eq s2
      go_enter Try.func41, Try.ntmps41
      go_wp2_with fail
      have fw := Lib.hid ((Fr.refl w.heap.size [] w).alloc (Nat.le_refl _) (.cells #[.int .i64 k, .int .i64 re, .int .i64 im] 59))
      generalize w.alloc _ = w2 at *
      refine (P1.out _).mono ?_
      rintro e w3 ⟨rfl, f3⟩
      have F3 := Lib.hid (fw.out.trans (f3.mono fw.out.size (by simp)))
      clear f3
      go_wp2_with fail
      refine (P2.out _).mono ?_
      rintro e w4 ⟨rfl, f4⟩
      have F4 := Lib.hid (F3.out.trans (f4.mono F3.out.size (by simp)))
      clear f4
      go_wp2_with fail
      go_ret2
      exact ⟨by rw [← HST.out]; rfl, F4.out⟩
end Go.Proofs.Ytkmpcddhbdndkaa
