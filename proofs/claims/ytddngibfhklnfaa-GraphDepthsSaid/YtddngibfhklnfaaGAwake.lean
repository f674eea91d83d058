/- The contracts of forebaylaw08.awake and Great. -/
import Derived.Test.YtddngibfhklnfaaGPass
import Derived.Test.YtddngibfhklnfaaRfB
namespace Go.Proofs.Ytddngibfhklnfaa
open Go.RowKit Go.Fb
theorem pas_right8 (p : Int) (h1 : 1 ≤ p) (h3 : p ≤ 3) : right8 p (rtk 8 p) = true := by
  unfold right8 inTo
  rw [Bool.and_eq_true]
  refine ⟨by simp; omega, ?_⟩
  rw [List.all_eq_true]
  intro k hk
  have hk := List.mem_range.1 hk
  have hp : 0 < p := by omega
  have a1 := Int.emod_nonneg (k : Int) (show p ≠ 0 by omega)
  have a2 := Int.emod_lt_of_pos (k : Int) hp
  simp [rtk, hk]
  omega
theorem pass_right (p : Int) : RightG (passL p) := by
  obtain ⟨h1, h3⟩ := parP_in p
  have hr := pas_right8 (parP p) h1 h3
  refine ⟨by simp [passL], ?_, ?_, by simp [passL, idsN, pasN], ⟨fun f => if f = 0 then 0 else 1, ?_⟩⟩
  · intro n hn
    simp only [passL, List.mem_cons, List.not_mem_nil, or_false] at hn
    rcases hn with rfl | rfl
    · simp [nodeB, pasN, kindB, hr]
    · have hu : unlikeB [0] = true := by simp [unlikeB]
      have ha : aboveB (passL p) 0 = false := by simp [aboveB, findN, passL, pasN]
      simp [nodeB, pasS, kindB, hr, hu, ha]
  · simp [passL, idsN, pasN, pasS]
  · intro n hn f hf
    simp only [passL, List.mem_cons, List.not_mem_nil, or_false] at hn
    rcases hn with rfl | rfl
    · simp [pasN] at hf
    · simp [pasS] at hf
      subst hf
      simp [pasS]
theorem pass_order (p : Int) : orderN (passL p) = [0, 1] := by
  have hr := pass_right p
  have hc := checkN_zero.2 hr
  unfold orderN
  rw [if_pos hc]
  have hl : (sortN (passL p)).length = 2 := hr.complete
  have ho := sortN_ord (passL p)
  match hs : sortN (passL p), hl with
  | [a, b], _ =>
    rw [hs] at ho
    obtain ⟨n0, hn0, e0, f0⟩ := ho.each 0 a rfl
    obtain ⟨n1, hn1, e1, f1⟩ := ho.each 1 b rfl
    have hab : a ≠ b := by have := ho.nodup; simp at this; exact this
    simp only [passL, List.mem_cons, List.not_mem_nil, or_false] at hn0 hn1
    have ha : a = 0 := by
      rcases hn0 with rfl | rfl
      · simpa [pasN] using e0.symm
      · have := f0 0 (by simp [pasS])
        simp at this
    have hb : b = 1 := by
      rcases hn1 with rfl | rfl
      · exfalso
        apply hab
        rw [ha, ← e1]; rfl
      · simpa [pasS] using e1.symm
    rw [ha, hb]
theorem checkN_nil : checkN [] = 10 := by
  unfold checkN
  rw [if_neg (by simp), if_neg]
  simp [hasI, idsN]
theorem small_pass {p : Int} {M : List Ndm} (h : fstN M = passL p) : Small M := by
  refine ⟨?_, fun m hm => ?_⟩
  · have := congrArg List.length h
    simp [fstN, passL] at this
    omega
  · have h1 : m.1 ∈ fstN M := List.mem_map.2 ⟨m, hm, rfl⟩
    rw [h] at h1
    simp only [passL, List.mem_cons, List.not_mem_nil, or_false] at h1
    rcases h1 with h1 | h1 <;> rw [h1] <;> simp [pasN, pasS]
set_option maxRecDepth 100000 in
set_option maxHeartbeats 2000000 in
theorem awake08_any (w : World) : Calls Try.prog 12 #[] w fun e w' => e = .returned (.bool true) ∧ Fr w.heap.size [] w w' := by
  have HP := Lib.hid (pass_any 2 w)
  go_enter Try.func12, Try.ntmps12
  go_wp2_with fail
  refine HP.out.mono ?_
  rintro e w1 ⟨A, c, M, rfl, hn, hf, f1⟩
  have F1 := Lib.hid f1
  have HN := Lib.hid (hn.nds (Fr.refl w1.heap.size [] w1) (by simp))
  have HSM := Lib.hid (small_pass hf)
  have HC := gcheck_any A c _ 2 M w1 HN.out (Nat.le_refl _) HSM.out
  rw [hf, checkN_zero.2 (pass_right 2)] at HC
  have HC := Lib.hid HC
  have HO := Lib.hid (fun (wx : World) (hx : Fr w1.heap.size [] w1 wx) => (by rw [← pass_order 2, ← hf]; exact order_any A c w1.heap.size 2 M wx (HN.out.frw hx (Nat.le_refl _) (by simp)) hx.size HSM.out : Calls Try.prog 16 #[.slice A 2 c] wx (IntsOut [0, 1] wx)))
  clear f1 hn hf HP
  go_wp2_with fail
  refine HC.out.mono ?_
  rintro e w2 ⟨rfl, f2⟩
  have F2 := Lib.hid f2
  clear f2
  go_wp2_with fail
  refine (HO.out w2 F2.out).mono ?_
  rintro e w3 ⟨A3, c3, k, hk, rfl, ho, f3⟩
  simp at hk
  subst hk
  have F3 := Lib.hid (F1.out.trans ((F2.out.trans (f3.mono F2.out.size (by simp))).mono (B' := w.heap.size) (L' := []) F1.out.size (by simp)))
  have BL := Blk.new w3 3 #[.int .i64 0, .int .i64 1]
  have fa := (Fr.refl w3.heap.size [] w3).alloc (Nat.le_refl _) (.cells #[.int .i64 0, .int .i64 1] 3)
  have F4 := Lib.hid (F3.out.trans (fa.mono (B' := w.heap.size) (L' := []) F3.out.size (by simp)))
  have HI := rints_any A3 (some ⟨w3.heap.size, 0, none⟩) c3 2 (w3.heap.size + 1) 2 2 [0, 1] [0, 1] (w3.alloc (.cells #[.int .i64 0, .int .i64 1] 3)) rfl rfl (by omega) (by omega) (((Reads.of_own ho).fr fa (Nat.le_refl _) (by simp)).more (by omega)) (Reads.of_blk BL rfl)
  rw [decide_eq_true rfl] at HI
  have HI := Lib.hid HI
  have HNIL := Lib.hid (fun (wx : World) => (by rw [← checkN_nil]; exact gcheck_any none 0 0 0 [] wx ⟨rfl, Reads.none_, by simp⟩ (Nat.zero_le _) ⟨by simp, by simp⟩ : Calls Try.prog 15 #[.slice none 0 0] wx fun e w' => e = .returned (.int .i64 10) ∧ Fr wx.heap.size [] wx w'))
  clear ho f3 BL fa HO HC
  go_wp2_with fail
  refine HI.out.mono ?_
  rintro e w5 ⟨rfl, f5⟩
  have F5 := Lib.hid (F4.out.trans (f5.mono (B' := w.heap.size) (L' := []) F4.out.size (by simp)))
  clear f5 HI
  go_wp2_with fail
  refine (HNIL.out w5).mono ?_
  rintro e w6 ⟨rfl, f6⟩
  have F6 := Lib.hid (F5.out.trans (f6.mono (B' := w.heap.size) (L' := []) F5.out.size (by simp)))
  clear f6
  go_wp2_with fail
  go_ret
  exact ⟨rfl, F6.out⟩
def greatN (L : List Nd) : Bool := decide (20 < L.length) || L.any fun x => decide (60 < x.pg.length) || decide (20 < x.fr.length)
set_option maxRecDepth 100000 in
set_option maxHeartbeats 2000000 in
theorem great08_any (A : Option Addr) (c B n : Nat) (M : List Ndm) (w : World) (h : Nds w B A n M) (hB : B ≤ w.heap.size) (hm : n ≤ maxLen) :
    Calls Try.prog 13 #[.slice A n c] w fun e w' => e = .returned (.bool (greatN (fstN M))) ∧ Fr w.heap.size [] w w' := by
  unfold maxLen at hm
  obtain ⟨L, hL⟩ : ∃ L, L = fstN M := ⟨_, rfl⟩
  obtain ⟨v, hv⟩ : ∃ v, v = greatN L := ⟨_, rfl⟩
  have hnl : L.length = n := by rw [hL, h.num]; simp [fstN]
  rw [← hL, ← hv]
  have HV := Lib.hid hv
  have HL := Lib.hid hL
  have HNL := Lib.hid hnl
  have H := Lib.hid h
  clear h hL hv hnl
  by_cases h20 : 20 < n
  · have hv : v = true := by rw [HV.out, greatN, HNL.out, decide_eq_true h20]; rfl
    have HVV := Lib.hid hv
    clear hv
    go_enter Try.func13, Try.ntmps13
    go_wp2_with fail
    go_ret
    exact ⟨by rw [HVV.out]; rfl, Fr.refl _ _ _⟩
  have hn20 : n ≤ 20 := by omega
  have HVA := Lib.hid (show v = L.any (fun x => decide (60 < x.pg.length) || decide (20 < x.fr.length)) by rw [HV.out, greatN, HNL.out, decide_eq_false h20]; rfl)
  go_enter Try.func13, Try.ntmps13
  go_wp2_with fail
  go_loopg [10] n (fun g s10 wr => ∃ k : Nat, k ≤ n ∧ g = n - k ∧ s10 = .int .i64 k ∧ RowKit.Hid (∀ x ∈ L.take k, (decide (60 < x.pg.length) || decide (20 < x.fr.length)) = false) ∧ RowKit.Hid (Fr w.heap.size [] w wr))
  case atStart => exact ⟨0, Nat.zero_le _, rfl, rfl, Lib.hid (by simp), Lib.hid (Fr.refl _ _ _)⟩
  case round =>
    obtain ⟨k, hk, rfl, rfl, HB, FR⟩ := hrel
    by_cases hkn : k < n
    · have hki : (k : Int) < (n : Int) := by omega
      have hk0 : (0 : Int) ≤ (k : Int) := by omega
      obtain ⟨m, hx⟩ : ∃ m, M[k]? = some m := ⟨_, List.getElem?_eq_getElem (by rw [← H.out.num]; exact hkn)⟩
      have HND := H.out.frw FR.out hB (by simp)
      obtain ⟨b1, o1, rfl, hb1, hc1⟩ := HND.get hx
      have hin := HND.inn m (List.mem_of_getElem? hx)
      have HTK := Lib.hid (show L.take (k + 1) = L.take k ++ [m.1] by rw [HL.out]; exact fst_take hx)
      have HX := Lib.hid (show L[k]? = some m.1 by rw [HL.out]; simp [fstN, hx])
      obtain ⟨x, sf, sp⟩ := m
      have FA := Lib.hid (FR.out.alloc FR.out.size (.cells (ndA x sf sp) 38))
      obtain ⟨⟨Af, cf, hf1, _⟩, ⟨Ap, cp, hp1, _⟩⟩ := hin
      simp only at hf1 hp1 HTK HX
      subst hf1
      subst hp1
      obtain ⟨g0, g1, g2, g3, g4, g5, g6, g7, g8, g9, g10, g11, g12⟩ := ndL_get (x, .slice Af x.fr.length cf, .slice Ap x.pg.length cp)
      have p0 := hc1 0 _ g0
      have p1 := hc1 1 _ g1
      have p2 := hc1 2 _ g2
      have p3 := hc1 3 _ g3
      have p4 := hc1 4 _ g4
      have p5 := hc1 5 _ g5
      have p6 := hc1 6 _ g6
      have p7 := hc1 7 _ g7
      have p8 := hc1 8 _ g8
      have p9 := hc1 9 _ g9
      have p10 := hc1 10 _ g10
      have p11 := hc1 11 _ g11
      have p12 := hc1 12 _ g12
      simp only [Nat.add_zero] at p0
      obtain ⟨nf, hnf⟩ : ∃ z, z = x.fr.length := ⟨_, rfl⟩
      obtain ⟨np, hnp⟩ : ∃ z, z = x.pg.length := ⟨_, rfl⟩
      rw [← hnf] at p2 FA
      rw [← hnp] at p3 FA
      have HNF := Lib.hid hnf
      have HNP := Lib.hid hnp
      clear hc1 hx g0 g1 g2 g3 g4 g5 g6 g7 g8 g9 g10 g11 g12 HND hnf hnp hb1
      by_cases e1 : 60 < np
      · have hv : v = true := by rw [HVA.out]; exact any_take HX.out (by rw [← HNP.out, decide_eq_true e1]; rfl)
        have HVV := Lib.hid hv
        clear hv
        go_wp2_with fail
        go_ret
        exact ⟨by rw [HVV.out]; rfl, FA.out⟩
      · by_cases e2 : 20 < nf
        · have hv : v = true := by rw [HVA.out]; exact any_take HX.out (by rw [← HNF.out, decide_eq_true e2]; simp)
          have HVV := Lib.hid hv
          clear hv
          go_wp2_with fail
          go_ret
          exact ⟨by rw [HVV.out]; rfl, FA.out⟩
        · have HB2 := Lib.hid (show ∀ y ∈ L.take (k + 1), (decide (60 < y.pg.length) || decide (20 < y.fr.length)) = false from fun y hy => by
            rw [HTK.out] at hy
            rcases List.mem_append.1 hy with hy | hy
            · exact HB.out y hy
            · rw [List.mem_singleton.1 hy, ← HNP.out, ← HNF.out, decide_eq_false e1, decide_eq_false e2]; rfl)
          go_wp2_with fail
          go_roundg (n - (k + 1))
          case measure => omega
          case rel => exact ⟨k + 1, by omega, rfl, by go_num, HB2, FA⟩
    · obtain rfl : k = n := by omega
      have hv : v = false := by
        have htk : L.take k = L := List.take_of_length_le (by rw [HNL.out]; exact Nat.le_refl _)
        have h := HB.out
        rw [htk] at h
        rw [HVA.out]
        exact any_none h
      have HVV := Lib.hid hv
      clear hv
      go_wp2_with fail
      go_ret
      exact ⟨by rw [HVV.out]; rfl, FR.out⟩
end Go.Proofs.Ytddngibfhklnfaa
