/- The contract of align.Put. -/
import Derived.Test.YtkmpcddhbdndkaaItemA
import Derived.Deep.DeepCutAuto
namespace Go.Proofs.Ytkmpcddhbdndkaa
open Go.RowKit Go.Fb
/-- Bytes, and whether there are any. -/
def RetPut (o : Option (List Int)) (w : World) (e : Ending) (w' : World) : Prop := e = .returned (.tuple #[.string (putS o), .int .i64 (if o.isSome then 0 else 1)]) ∧ Fr w.heap.size [] w w'
set_option maxRecDepth 100000 in
set_option maxHeartbeats 1000000 in
theorem aput_any (b : Bool) (k re im ep : Int) (p : Bool) (w : World) : Calls Try.prog 40 #[.agg (It b k re im ep p)] w (RetPut (putI b k re im ep p) w) := by
  cases b
  · have HC := Lib.hid (cright_any k re im)
    rcases Bool.eq_false_or_eq_true (recB k re im) with hR | hR
    case' inr =>
      have hv : putI false k re im ep p = none := by simp [putI, hR]
      rw [hv]
      rw [hR] at HC
      clear hv hR
      go_enter Try.func40, Try.ntmps40
      go_wp2_with fail
      refine (HC.out _).mono ?_
      rintro e w1 ⟨rfl, f1⟩
      have F1 := Lib.hid f1
      clear f1
      go_wp2_with fail
      go_ret2
      exact ⟨rfl, (((Fr.refl _ _ _).alloc (Nat.le_refl _) _).alloc (by simp) _).trans (F1.out.mono (by simp; omega) (by simp))⟩
    have hv : putI false k re im ep p = some (82 :: (be k ++ (be re ++ be im))) := by simp [putI, hR]
    rw [hv]
    rw [hR] at HC
    obtain ⟨hf1, hf2, hf3⟩ := recB_fits hR
    have hall : [k, re, im].all fitsB = true := by simp [hf1, hf2, hf3]
    have HALL := Lib.hid hall
    clear hv hR hf1 hf2 hf3 hall
    go_enter Try.func40, Try.ntmps40
    go_wp2_with fail
    have bi := (Blk.new w 70 (It false k re im ep p)).alloc (.cells #[.slice none 0 0] 136)
    have bw := fun base => Wr.new (w.alloc (.cells (It false k re im ep p) 70)) base
    have fw := ((Fr.refl w.heap.size [] w).alloc (Nat.le_refl _) (.cells (It false k re im ep p) 70)).alloc (by simp) (.cells #[.slice none 0 0] 136)
    rw [show (w.alloc (.cells (It false k re im ep p) 70)).heap.size = w.heap.size + 1 by simp] at bw
    have hgs : w.heap.size + 1 < ((w.alloc (.cells (It false k re im ep p) 70)).alloc (.cells #[.slice none 0 0] 136)).heap.size := by simp
    generalize (w.alloc _).alloc _ = w2 at *
    have BI := Lib.hid bi
    have BW := Lib.hid bw
    have FW := Lib.hid fw
    clear bi bw fw
    refine (HC.out _).mono ?_
    rintro e w3 ⟨rfl, f3⟩
    have bi := BI.out.fr f3 BI.out.lt (by simp)
    have c1 := bi.cell 1
    have c2 := bi.cell 2
    have c3 := bi.cell 3
    simp at c1 c2 c3
    have hg3 : w.heap.size + 1 < w3.heap.size := by have := f3.size; omega
    have BW3 := Lib.hid (fun base => (BW.out base).fr f3 hgs (Nat.le_refl _) (by simp))
    have F3 := Lib.hid (FW.out.trans (f3.mono (B' := w.heap.size) (L' := []) (by omega) (by simp)))
    clear bi f3
    have HN := Lib.hid (num_new [k, re, im] HALL.out (by simp) [] (by simp) BW3.out hg3)
    go_wp2_with fail
    refine HN.out.mono ?_
    rintro e w4 ⟨rfl, hw4, f4⟩
    have HW4 := Lib.hid hw4
    have F4 := Lib.hid (F3.out.trans (f4.mono (B' := w.heap.size) (L' := []) (by omega) (fun q hq hlt => by simp at hq; omega)))
    clear hw4 f4
    go_wp2_with fail
    refine (out_any _ _ _ _ HW4.out).mono ?_
    rintro e w5 ⟨rfl, rfl⟩
    have hsz : (strOfNums ([] ++ [k, re, im].flatMap be)).size ≤ 12 := by rw [strOfNums_size]; simp [be]
    have hst : (⟨#[82]⟩ : ByteArray) ++ strOfNums ([] ++ [k, re, im].flatMap be) = putS (some (82 :: (be k ++ (be re ++ be im)))) := by
      rw [str_cons]
      simp [putS]
    have HST := Lib.hid hst
    clear hst
    go_wp2_with fail
    go_ret2
    exact ⟨by rw [← HST.out]; rfl, F4.out⟩
  · by_cases h1 : ep < 0
    · have hv : putI true k re im ep p = none := by simp [putI]; omega
      rw [hv]
      clear hv
      go_enter Try.func40, Try.ntmps40
      go_wp2_with fail
      go_ret2
      exact ⟨rfl, ((Fr.refl _ _ _).alloc (Nat.le_refl _) _).alloc (by simp) _⟩
    by_cases h2 : 2147483647 < ep
    · have hv : putI true k re im ep p = none := by simp [putI]; omega
      rw [hv]
      clear hv
      go_enter Try.func40, Try.ntmps40
      go_wp2_with fail
      go_ret2
      exact ⟨rfl, ((Fr.refl _ _ _).alloc (Nat.le_refl _) _).alloc (by simp) _⟩
    have hv : putI true k re im ep p = some (66 :: (be ep ++ be (if p then 1 else 0))) := by simp [putI]; omega
    rw [hv]
    obtain ⟨pn, hpn⟩ : ∃ pn : Int, pn = if p then 1 else 0 := ⟨_, rfl⟩
    rw [← hpn]
    have hp01 : fitsB pn = true := by rw [hpn]; cases p <;> rfl
    have hall : [ep, pn].all fitsB = true := by simp [hp01]; simp [fitsB]; omega
    have HALL := Lib.hid hall
    clear hv hall hp01
    cases p
    · replace hpn : pn = 0 := hpn
      subst hpn
      go_enter Try.func40, Try.ntmps40
      go_upto_region 12 with fail
      have bi := (Blk.new w 70 (It true k re im ep false)).alloc (.cells #[.slice none 0 0] 136)
      have bw := fun base => Wr.new (w.alloc (.cells (It true k re im ep false) 70)) base
      have fw := ((Fr.refl w.heap.size [] w).alloc (Nat.le_refl _) (.cells (It true k re im ep false) 70)).alloc (by simp) (.cells #[.slice none 0 0] 136)
      rw [show (w.alloc (.cells (It true k re im ep false) 70)).heap.size = w.heap.size + 1 by simp] at bw
      have hg3 : w.heap.size + 1 < ((w.alloc (.cells (It true k re im ep false) 70)).alloc (.cells #[.slice none 0 0] 136)).heap.size := by simp
      generalize (w.alloc _).alloc _ = w3 at *
      have c2 := bi.cell 4
      simp at c2
      have BW3 := Lib.hid bw
      have F3 := Lib.hid fw
      have HN := Lib.hid (num_new [ep, 0] HALL.out (by simp) [] (by simp) BW3.out hg3)
      clear bi bw fw h1 h2
      go_wp2_with fail
      refine HN.out.mono ?_
      rintro e w4 ⟨rfl, hw4, f4⟩
      have HW4 := Lib.hid hw4
      have F4 := Lib.hid (F3.out.trans (f4.mono (B' := w.heap.size) (L' := []) (by omega) (fun q hq hlt => by simp at hq; omega)))
      clear hw4 f4
      go_wp2_with fail
      refine (out_any _ _ _ _ HW4.out).mono ?_
      rintro e w5 ⟨rfl, rfl⟩
      have hsz : (strOfNums ([] ++ [ep, 0].flatMap be)).size ≤ 12 := by rw [strOfNums_size]; simp [be]
      have hst : (⟨#[66]⟩ : ByteArray) ++ strOfNums ([] ++ [ep, 0].flatMap be) = putS (some (66 :: (be ep ++ be 0))) := by
        rw [str_cons]
        simp [putS]
      have HST := Lib.hid hst
      clear hst
      go_wp2_with fail
      go_ret2
      exact ⟨by rw [← HST.out]; rfl, F4.out⟩
    · replace hpn : pn = 1 := hpn
      subst hpn
      go_enter Try.func40, Try.ntmps40
      go_upto_region 12 with fail
      have bi := (Blk.new w 70 (It true k re im ep true)).alloc (.cells #[.slice none 0 0] 136)
      have bw := fun base => Wr.new (w.alloc (.cells (It true k re im ep true) 70)) base
      have fw := ((Fr.refl w.heap.size [] w).alloc (Nat.le_refl _) (.cells (It true k re im ep true) 70)).alloc (by simp) (.cells #[.slice none 0 0] 136)
      rw [show (w.alloc (.cells (It true k re im ep true) 70)).heap.size = w.heap.size + 1 by simp] at bw
      have hg3 : w.heap.size + 1 < ((w.alloc (.cells (It true k re im ep true) 70)).alloc (.cells #[.slice none 0 0] 136)).heap.size := by simp
      generalize (w.alloc _).alloc _ = w3 at *
      have c2 := bi.cell 4
      simp at c2
      have BW3 := Lib.hid bw
      have F3 := Lib.hid fw
      have HN := Lib.hid (num_new [ep, 1] HALL.out (by simp) [] (by simp) BW3.out hg3)
      clear bi bw fw h1 h2
      go_wp2_with fail
      refine HN.out.mono ?_
      rintro e w4 ⟨rfl, hw4, f4⟩
      have HW4 := Lib.hid hw4
      have F4 := Lib.hid (F3.out.trans (f4.mono (B' := w.heap.size) (L' := []) (by omega) (fun q hq hlt => by simp at hq; omega)))
      clear hw4 f4
      go_wp2_with fail
      refine (out_any _ _ _ _ HW4.out).mono ?_
      rintro e w5 ⟨rfl, rfl⟩
      have hsz : (strOfNums ([] ++ [ep, 1].flatMap be)).size ≤ 12 := by rw [strOfNums_size]; simp [be]
      have hst : (⟨#[66]⟩ : ByteArray) ++ strOfNums ([] ++ [ep, 1].flatMap be) = putS (some (66 :: (be ep ++ be 1))) := by
        rw [str_cons]
        simp [putS]
      have HST := Lib.hid hst
      clear hst
      go_wp2_with fail
      go_ret2
      exact ⟨by rw [← HST.out]; rfl, F4.out⟩
end Go.Proofs.Ytkmpcddhbdndkaa
