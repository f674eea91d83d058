/- forebaylaw12.DenPass: for every input the call returns true, and each argument reads behind it as it read before. The walk lies in the text that this one imports; here it is lifted to the given row. -/
import Derived.Test.YtfakgidimekikaaGreatMPfC
import Derived.Test.YtfakgidimekikaaGreatMFlD
import Derived.Test.YtfakgidimekikaaGreatMCtE
import Derived.Test.YtfakgidimekikaaGreatMLnB
import Derived.Test.YtfakgidimekikaaGreatMArgs
import Derived.Test.YtfakgidimekikaaGreatMRecA
import Derived.Deep.DeepCutAuto
namespace Go.Proofs.YtfakgidimekikaaGreat
open Go.RowKit Go.Fb
set_option linter.unusedVariables false
theorem allT_nil : (allT (tabL [])).length = 0 := by
  unfold allT someE someT
  rw [List.length_map]
  have : (plcs.filter fun p => decide (tabL [] p ≠ c0) && true) = [] := List.filter_eq_nil_iff.2 (fun p _ => by simp [tabL])
  rw [this]
  rfl
theorem outR_one (l : List (Nat → Int)) : outR [1] l = l.map fun x => lnF 1 0 (x 0) (x 1) (x 2) := by
  unfold outR
  induction l with
  | nil => rfl
  | cons x l ih => rw [List.flatMap_cons, List.map_cons, ih]; rfl
theorem onlyV_take (l : List (Nat → Int)) (m : Nat) (p : Pl) : preB (onlyV (l.take m) p) (onlyV l p) = true := by
  have h : onlyV l p = onlyV (l.take m) p ++ onlyV (l.drop m) p := by
    unfold onlyV
    rw [← List.map_append, ← List.filter_append, List.take_append_drop]
  rw [preB_iff, h]
  exact ⟨by rw [List.length_append]; omega, by rw [List.take_left]⟩
theorem prefB_take (l : List (Nat → Int)) (m : Nat) : prefB (l.take m) l = true := prefB_of fun p => onlyV_take l m p
theorem lreads_pre {w : World} {B m : Nat} {A : Option Addr} {l : List (Nat → Int)} (h : Reads w B 5 A l.length (cellsLn l)) (hm : m ≤ l.length) : Reads w B 5 A m (cellsLn (l.take m)) := by
  refine ⟨by rw [cellsLn_length, List.length_take, Nat.min_eq_left hm], fun hn => ?_⟩
  obtain ⟨b, off, e, hb, hc⟩ := h.2 (by omega)
  refine ⟨b, off, e, hb, fun j u hu => hc j u ?_⟩
  have hl : cellsLn l = cellsLn (l.take m) ++ cellsLn (l.drop m) := by rw [← cellsLn_app, List.take_append_drop]
  rw [hl, List.getElem?_append_left]
  · exact hu
  · rcases Nat.lt_or_ge j (cellsLn (l.take m)).length with h | h
    · exact h
    · rw [List.getElem?_eq_none h] at hu; cases hu
set_option maxRecDepth 100000 in
set_option maxHeartbeats 16000000 in
theorem walk_DenPass (p : Int) (Ar : Option Addr) (nr cr : Nat) (l : List (Nat → Int)) (hl : nr = l.length) (hc : nr ≤ cr) (hm : cr ≤ maxLen) (ct : Int) (hct : 0 ≤ ct ∧ ct ≤ 255) (w : World) (r0 : Reads w w.heap.size 3 Ar nr (cellsR l)) :
    Calls Tryz.prog 10 #[.int .i64 p, .slice Ar nr cr, .int .u8 ct] w fun e w' => e = .returned (.bool true) ∧ Below w.heap.size w w' := by
  have R0 := Lib.hid r0
  have HL := Lib.hid hl
  have HAW := Lib.hid (awake12_any w)
  clear r0 hl
  go_enter Tryz.func10, Tryz.ntmps10
  go_wp2_with fail
  refine HAW.out.mono ?_
  rintro e w1 ⟨rfl, f1⟩
  have F1 := Lib.hid f1
  clear f1 HAW
  by_cases h40 : 40 < nr
  · have hi : (40 : Int) < (nr : Int) := by omega
    go_wp2_with fail
    go_ret
    exact ⟨rfl, F1.out.below⟩
  have hi0 : ¬ (40 : Int) < (nr : Int) := by omega
  have HN := Lib.hid (cnew_any none 0 0 w1.heap.size [] w1 rfl (by omega) Reads.none_ (Nat.le_refl _))
  go_wp2_with fail
  refine HN.out.mono ?_
  rintro e w2 (⟨hb, _⟩ | ⟨_, rfl, c2, f2⟩)
  · cases hb
  have F2 := Lib.hid (F1.out.trans (f2.mono (B' := w.heap.size) (L' := []) F1.out.size (by simp)))
  obtain ⟨gm, hgm⟩ : ∃ g, g = w1.heap.size := ⟨_, rfl⟩
  obtain ⟨gt, hgt⟩ : ∃ g, g = gm + 1 := ⟨_, rfl⟩
  rw [← hgm, ← hgt] at c2
  rw [← hgm, ← hgt]
  have HC2 := Lib.hid c2
  have HP := Lib.hid (pass_any p w2)
  clear c2 f2 HN F1 hgm hgt
  go_wp2_with fail
  refine HP.out.mono ?_
  rintro e w3 ⟨A, c, M, rfl, hn, hf, f3⟩
  have F3 := Lib.hid (F2.out.trans (f3.mono (B' := w.heap.size) (L' := []) F2.out.size (by simp)))
  have HC3 := Lib.hid (HC2.out.keep f3)
  have HRN := Lib.hid (by
    have := drun_any gt A Ar c cr w3.heap.size 2 nr M l w3 (hn.nds (L := []) (Fr.refl _ _ _) (by simp)) (Nat.le_refl _) (small_pass hf) (by rw [hf]; exact pass_right p) HL.out (by omega) ((R0.out.fr F3.out (Nat.le_refl _) (by simp)).more F3.out.size) (by rw [hf]; exact pass_sinks p)
    rw [hf, pass_child] at this
    exact this)
  clear hn hf f3 HP F2 HC2
  go_wp2_with fail
  refine HRN.out.mono ?_
  rintro e w4 (⟨hb, rfl, f4⟩ | ⟨hb, A4, n4, c4, hn4, rfl, hr4, hc4, f4⟩)
  · have F4 := Lib.hid (F3.out.trans (f4.mono (B' := w.heap.size) (L' := []) F3.out.size (by simp)))
    have HBD := Lib.hid hb
    clear hb f4 HRN F3 HC3
    go_wp2_with fail
    go_loopg [12, 35] nr (fun g s12 s35 wr => ∃ k : Nat, k ≤ nr ∧ g = nr - k ∧ s35 = .int .i64 k ∧ (s12 = undef ∨ ∃ a, s12 = .pointer a) ∧ RowKit.Hid ((l.take k).all recR = true) ∧ RowKit.Hid (Fr w4.heap.size [] w4 wr))
    case atStart => exact ⟨0, Nat.zero_le _, rfl, rfl, .inl rfl, Lib.hid rfl, Lib.hid (Fr.refl _ _ _)⟩
    case round =>
      obtain ⟨k, hk, rfl, rfl, h12, HR, F⟩ := hrel
      have FW := Lib.hid (F4.out.trans (F.out.mono (B' := w.heap.size) (L' := []) F4.out.size (by simp)))
      by_cases hkn : k < nr
      · have hki : (k : Int) < (nr : Int) := by omega
        have hk0 : (0 : Int) ≤ (k : Int) := by omega
        obtain ⟨x, hx⟩ : ∃ x, l[k]? = some x := ⟨_, List.getElem?_eq_getElem (by rw [← HL.out]; exact hkn)⟩
        have hrl := R0.out.fr FW.out (Nat.le_refl _) (by simp)
        rw [HL.out] at hrl
        obtain ⟨b1, of1, rfl, hb1, hc1⟩ := reads_rec hrl hx
        have p0 := hc1 0 (by omega)
        have p1 := hc1 1 (by omega)
        have p2 := hc1 2 (by omega)
        simp only [Nat.add_zero, ← Nat.add_assoc] at p0 p1 p2
        have HTK := Lib.hid (show l.take (k + 1) = l.take k ++ [x] by rw [List.take_add_one, hx]; rfl)
        clear hc1 hrl hx hb1
        have fa := (Fr.refl wr.heap.size [] wr).alloc (Nat.le_refl _) (.cells #[.int .i64 (x 0), .int .i64 (x 1), .int .i64 (x 2)] 76)
        have BX := Lib.hid (Blk.new wr 76 #[.int .i64 (x 0), .int .i64 (x 1), .int .i64 (x 2)])
        have FA := Lib.hid (F.out.trans (fa.mono (B' := w4.heap.size) (L' := []) F.out.size (by simp)))
        clear fa
        go_upto_region 10 with fail
        clear p0 p1 p2
        generalize wr.alloc (.cells #[.int .i64 (x 0), .int .i64 (x 1), .int .i64 (x 2)] 76) = wa at *
        generalize wr.heap.size = gx at BX ⊢
        have x0 := BX.out.cell 0
        have x1 := BX.out.cell 1
        have x2 := BX.out.cell 2
        simp at x0 x1 x2
        obtain ⟨v, hv⟩ : ∃ v, v = recB (x 0) (x 1) (x 2) := ⟨_, rfl⟩
        have HRC := Lib.hid (rrec_any (x 0) (x 1) (x 2) wa)
        rw [← hv] at HRC
        have HV := Lib.hid hv
        clear hv
        go_wp2_with fail
        refine HRC.out.mono ?_
        rintro e w5 ⟨rfl, f5⟩
        have F5 := Lib.hid (FA.out.trans (f5.mono (B' := w4.heap.size) (L' := []) FA.out.size (by simp)))
        clear f5 HRC
        cases v with
        | true =>
          have HR2 := Lib.hid (show (l.take (k + 1)).all recR = true by rw [HTK.out, List.all_append, HR.out]; simp [recR, ← HV.out])
          go_wp2_with fail
          go_roundg (nr - (k + 1))
          case measure => omega
          case rel => exact ⟨k + 1, by omega, rfl, by go_num, .inr ⟨_, rfl⟩, HR2, F5⟩
        | false =>
          have F9 := Lib.hid (F4.out.trans (F5.out.mono (B' := w.heap.size) (L' := []) F4.out.size (by simp)))
          go_wp2_with fail
          go_ret
          exact ⟨rfl, F9.out.below⟩
      · obtain rfl : nr = k := by omega
        exfalso
        have h := HR.out
        rw [List.take_of_length_le (by rw [HL.out]; exact Nat.le_refl _), HBD.out] at h
        cases h
  · have F4 := Lib.hid (F3.out.trans (f4.mono (B' := w.heap.size) (L' := []) F3.out.size (by simp)))
    have HC4 := Lib.hid (HC3.out.keep f4)
    have HBD := Lib.hid hb
    have hn5 : n4 = nr := by rw [hn4, outR_one, List.length_map, HL.out]
    subst hn5
    obtain ⟨q, hq⟩ : ∃ q, q = outR [1] l := ⟨_, rfl⟩
    rw [← hq] at hn4 hr4
    have R4 := Lib.hid hr4
    have HQ := Lib.hid hq
    have HQL := Lib.hid hn4
    clear hb f4 HRN F3 HC3 hn4 hr4 hq
    go_wp2_with fail
    go_loopg [12, 35] n4 (fun g s12 s35 wr => ∃ k : Nat, k ≤ n4 ∧ g = n4 - k ∧ s35 = .int .i64 k ∧ (s12 = undef ∨ ∃ a, s12 = .pointer a) ∧ RowKit.Hid (Fr w4.heap.size [] w4 wr))
    case atStart => exact ⟨0, Nat.zero_le _, rfl, rfl, .inl rfl, Lib.hid (Fr.refl _ _ _)⟩
    case round =>
      obtain ⟨k, hk, rfl, rfl, h12, F⟩ := hrel
      have FW := Lib.hid (F4.out.trans (F.out.mono (B' := w.heap.size) (L' := []) F4.out.size (by simp)))
      by_cases hkn : k < n4
      · have hki : (k : Int) < (n4 : Int) := by omega
        have hk0 : (0 : Int) ≤ (k : Int) := by omega
        obtain ⟨x, hx⟩ : ∃ x, l[k]? = some x := ⟨_, List.getElem?_eq_getElem (by rw [← HL.out]; exact hkn)⟩
        have hrl := R0.out.fr FW.out (Nat.le_refl _) (by simp)
        rw [HL.out] at hrl
        obtain ⟨b1, of1, rfl, hb1, hc1⟩ := reads_rec hrl hx
        have p0 := hc1 0 (by omega)
        have p1 := hc1 1 (by omega)
        have p2 := hc1 2 (by omega)
        simp only [Nat.add_zero, ← Nat.add_assoc] at p0 p1 p2
        have HV := Lib.hid (show recB (x 0) (x 1) (x 2) = true from List.all_eq_true.1 HBD.out x (List.mem_of_getElem? hx))
        clear hc1 hrl hx hb1
        have fa := (Fr.refl wr.heap.size [] wr).alloc (Nat.le_refl _) (.cells #[.int .i64 (x 0), .int .i64 (x 1), .int .i64 (x 2)] 76)
        have BX := Lib.hid (Blk.new wr 76 #[.int .i64 (x 0), .int .i64 (x 1), .int .i64 (x 2)])
        have FA := Lib.hid (F.out.trans (fa.mono (B' := w4.heap.size) (L' := []) F.out.size (by simp)))
        clear fa
        go_upto_region 10 with fail
        clear p0 p1 p2
        generalize wr.alloc (.cells #[.int .i64 (x 0), .int .i64 (x 1), .int .i64 (x 2)] 76) = wa at *
        generalize wr.heap.size = gx at BX ⊢
        have x0 := BX.out.cell 0
        have x1 := BX.out.cell 1
        have x2 := BX.out.cell 2
        simp at x0 x1 x2
        have HRC := Lib.hid (rrec_any (x 0) (x 1) (x 2) wa)
        rw [HV.out] at HRC
        go_wp2_with fail
        refine HRC.out.mono ?_
        rintro e w5 ⟨rfl, f5⟩
        have F5 := Lib.hid (FA.out.trans (f5.mono (B' := w4.heap.size) (L' := []) FA.out.size (by simp)))
        clear f5 HRC
        go_wp2_with fail
        go_roundg (n4 - (k + 1))
        case measure => omega
        case rel => exact ⟨k + 1, by omega, rfl, by go_num, .inr ⟨_, rfl⟩, F5⟩
      · obtain rfl : n4 = k := by omega
        have HAL := Lib.hid (by
          have := call_any gt gm (tabL []) TOk.zero wr (HC4.out.keep F.out)
          exact this)
        have HA0 := Lib.hid (show (allT (tabL [])).length = 0 from allT_nil)
        go_wp2_with fail
        refine HAL.out.mono ?_
        rintro e w5 ⟨A5, c5, rfl, _, _, _, f5⟩
        have F45 := Lib.hid (F.out.trans (f5.mono (B' := w4.heap.size) (L' := []) F.out.size (by simp)))
        rw [HA0.out]
        clear f5 HAL FW F HA0 HC4
        have HCA := Lib.hid (fun (wx : World) (hx : Fr w4.heap.size [] w4 wx) (m : Nat) (hm : m ≤ n4) => (by
          have := dprefix_any A4 A4 m n4 c4 c4 w4.heap.size (q.take m) q wx (by rw [List.length_take, ← HQL.out, Nat.min_eq_left hm]) HQL.out (by omega) (by omega) (lreads_pre (by rw [← HQL.out]; exact R4.out.fr hx (Nat.le_refl _) (by simp)) (by rw [← HQL.out]; exact hm)) (R4.out.fr hx (Nat.le_refl _) (by simp)) hx.size
          rw [prefB_take] at this
          exact this : Calls Tryz.prog 18 #[.slice A4 m c4, .slice A4 n4 c4] wx fun e w' => e = .returned (.bool true) ∧ Fr wx.heap.size [] wx w'))
        have HCB := Lib.hid (fun (wx : World) (hx : Fr w4.heap.size [] w4 wx) (m : Nat) (hm : m ≤ n4) => (by
          have := dalike_any A4 A4 m n4 c4 c4 w4.heap.size (q.take m) q wx (by rw [List.length_take, ← HQL.out, Nat.min_eq_left hm]) HQL.out (by omega) (by omega) (lreads_pre (by rw [← HQL.out]; exact R4.out.fr hx (Nat.le_refl _) (by simp)) (by rw [← HQL.out]; exact hm)) (R4.out.fr hx (Nat.le_refl _) (by simp)) hx.size
          rw [prefB_take, Bool.and_true, List.length_take, ← HQL.out, Nat.min_eq_left hm] at this
          exact this : Calls Tryz.prog 16 #[.slice A4 m c4, .slice A4 n4 c4] wx fun e w' => e = .returned (.bool (decide (m = n4))) ∧ Fr wx.heap.size [] wx w'))
        go_wp2_with fail
        go_loopg [13, 14, 67] n4 (fun g s13 s14 s67 wr => ∃ k : Nat, k ≤ n4 ∧ g = n4 - k ∧ s67 = .int .i64 k ∧ (s13 = undef ∨ ∃ a : Int, s13 = .int .i64 a) ∧ (s14 = undef ∨ ∃ a, s14 = .pointer a) ∧ RowKit.Hid (Fr w4.heap.size [] w4 wr))
        case atStart => exact ⟨0, Nat.zero_le _, rfl, rfl, .inl rfl, .inl rfl, F45⟩
        case round =>
          clear F45
          obtain ⟨k, hk2, rfl, rfl, h13, h14, F⟩ := hrel
          have FW := Lib.hid (F4.out.trans (F.out.mono (B' := w.heap.size) (L' := []) F4.out.size (by simp)))
          by_cases hkn : k < n4
          · have hki : (k : Int) < (n4 : Int) := by omega
            have hk0 : (0 : Int) ≤ (k : Int) := by omega
            obtain ⟨x, hx⟩ : ∃ x, l[k]? = some x := ⟨_, List.getElem?_eq_getElem (by rw [← HL.out]; exact hkn)⟩
            have hrl := R0.out.fr FW.out (Nat.le_refl _) (by simp)
            rw [HL.out] at hrl
            obtain ⟨b1, of1, rfl, hb1, hc1⟩ := reads_rec hrl hx
            have p0 := hc1 0 (by omega)
            have p1 := hc1 1 (by omega)
            have p2 := hc1 2 (by omega)
            simp only [Nat.add_zero, ← Nat.add_assoc] at p0 p1 p2
            have hqx : q[k]? = some (lnF 1 0 (x 0) (x 1) (x 2)) := by rw [HQ.out, outR_one, List.getElem?_map, hx]; rfl
            have hrq := R4.out.fr F.out (Nat.le_refl _) (by simp)
            rw [HQL.out] at hrq
            obtain ⟨b2, of2, hA2, hb2, hc2⟩ := reads_ln hrq hqx
            subst hA2
            have m0 : wr.cell? ⟨b2, of2 + (k * 5 + 0), none⟩ = some (.int .i64 1) := hc2 0 (by omega)
            have m1 : wr.cell? ⟨b2, of2 + (k * 5 + 1), none⟩ = some (.int .i64 0) := hc2 1 (by omega)
            have m2 : wr.cell? ⟨b2, of2 + (k * 5 + 2), none⟩ = some (.int .i64 (x 0)) := hc2 2 (by omega)
            have m3 : wr.cell? ⟨b2, of2 + (k * 5 + 3), none⟩ = some (.int .i64 (x 1)) := hc2 3 (by omega)
            have m4 : wr.cell? ⟨b2, of2 + (k * 5 + 4), none⟩ = some (.int .i64 (x 2)) := hc2 4 (by omega)
            simp only [Nat.add_zero, ← Nat.add_assoc] at m0 m1 m2 m3 m4
            have hbw : b2 < wr.heap.size := Nat.lt_of_lt_of_le hb2 F.out.size
            have fa := (Fr.refl wr.heap.size [] wr).alloc (Nat.le_refl _) (.cells #[.int .i64 (x 0), .int .i64 (x 1), .int .i64 (x 2)] 76)
            have BX := Lib.hid (Blk.new wr 76 #[.int .i64 (x 0), .int .i64 (x 1), .int .i64 (x 2)])
            have FA := Lib.hid (F.out.trans (fa.mono (B' := w4.heap.size) (L' := []) F.out.size (by simp)))
            have M0 := Lib.hid ((fa.cell (p := ⟨b2, of2 + k * 5, none⟩) hbw (by simp)).trans m0)
            have M1 := Lib.hid ((fa.cell (p := ⟨b2, of2 + k * 5 + 1, none⟩) hbw (by simp)).trans m1)
            have M2 := Lib.hid ((fa.cell (p := ⟨b2, of2 + k * 5 + 2, none⟩) hbw (by simp)).trans m2)
            have M3 := Lib.hid ((fa.cell (p := ⟨b2, of2 + k * 5 + 3, none⟩) hbw (by simp)).trans m3)
            have M4 := Lib.hid ((fa.cell (p := ⟨b2, of2 + k * 5 + 4, none⟩) hbw (by simp)).trans m4)
            clear hc1 hrl hx hb1 hqx hrq hb2 hc2 m0 m1 m2 m3 m4 fa
            go_upto_region 18 with fail
            clear p0 p1 p2
            generalize wr.alloc (.cells #[.int .i64 (x 0), .int .i64 (x 1), .int .i64 (x 2)] 76) = wa at *
            generalize wr.heap.size = gx at BX ⊢
            have x0 := BX.out.cell 0
            have x1 := BX.out.cell 1
            have x2 := BX.out.cell 2
            simp at x0 x1 x2
            have m0 := M0.out
            have m1 := M1.out
            have m2 := M2.out
            have m3 := M3.out
            have m4 := M4.out
            have hnq := fun W => line_one_neq 1 0 (x 0) (x 1) (x 2) W
            go_quiet (fail)
            go_wp2_with fail
            go_roundg (n4 - (k + 1))
            case measure => omega
            case rel => exact ⟨k + 1, by omega, rfl, by go_num, .inr ⟨_, rfl⟩, .inr ⟨_, rfl⟩, Lib.hid (FA.out.drewN _)⟩
          · obtain rfl : n4 = k := by omega
            obtain ⟨m, hmm⟩ := Int.eq_ofNat_of_zero_le (Int.emod_nonneg ct (show ((n4 : Int) + 1) ≠ 0 by omega))
            have hml : m ≤ n4 := by have := Int.emod_lt_of_pos ct (show (0 : Int) < (n4 : Int) + 1 by omega); omega
            have HTM := Lib.hid (show (wrap64 ct).tmod ((n4 : Int) + 1) = (m : Int) by
              rw [show wrap64 ct = ct by unfold wrap64; omega, Int.tmod_eq_emod_of_nonneg hct.1]
              exact hmm)
            clear hmm HBD R4 HQ HQL R0 HL hct hm
            go_upto_region 21 with fail
            have hn10 : (n4 : Int) + 1 ≠ 0 := by omega
            have htm := HTM.out
            have hmc : (m : Int) ≤ (c4 : Int) := by omega
            have hm0 : (0 : Int) ≤ (m : Int) := by omega
            have HA1 := Lib.hid (HCA.out wr F.out m hml)
            go_wp2_with fail
            refine HA1.out.mono ?_
            rintro e w6 ⟨rfl, f6⟩
            have F6 := Lib.hid (F.out.trans (f6.mono (B' := w4.heap.size) (L' := []) F.out.size (by simp)))
            have HA2 := Lib.hid (by
              have := HCB.out w6 F6.out n4 (Nat.le_refl _)
              rw [decide_eq_true rfl] at this
              exact this)
            clear f6 HA1
            go_wp2_with fail
            refine HA2.out.mono ?_
            rintro e w7 ⟨rfl, f7⟩
            have F7 := Lib.hid (F6.out.trans (f7.mono (B' := w4.heap.size) (L' := []) F6.out.size (by simp)))
            obtain ⟨v, hv⟩ : ∃ v, v = decide (m = n4) := ⟨_, rfl⟩
            have HA3 := Lib.hid (HCB.out w7 F7.out m hml)
            rw [← hv] at HA3
            have HVE := Lib.hid (show ((m : Int) == (n4 : Int)) = v by
              rw [hv, Bool.eq_iff_iff]
              simp
              omega)
            clear f7 HA2 hv
            go_wp2_with fail
            refine HA3.out.mono ?_
            rintro e w8 ⟨rfl, f8⟩
            have F8 := Lib.hid (F7.out.trans (f8.mono (B' := w4.heap.size) (L' := []) F7.out.size (by simp)))
            have F9 := Lib.hid (F4.out.trans (F8.out.mono (B' := w.heap.size) (L' := []) F4.out.size (by simp)))
            have hve := HVE.out
            clear f8 HA3
            go_wp2_with fail
            go_ret
            exact ⟨rfl, F9.out.below⟩
end Go.Proofs.YtfakgidimekikaaGreat
namespace Go.Proofs.YtfakgidimekikaaGreat
open Go.ChangeShapes Go.WideShapes Go.ChangeAt Go.RowKit Go.Fb
set_option linter.unusedVariables false

theorem u8_in {x : Int} (h : (Lit.int .u8 x).wf = true) : 0 ≤ x ∧ x ≤ 255 := by
  have h2 : (decide ((IntKind.u8).min ≤ x) && decide (x ≤ (IntKind.u8).max)) = true := h
  rw [Bool.and_eq_true, decide_eq_true_eq, decide_eq_true_eq] at h2
  exact h2
set_option maxRecDepth 100000 in
theorem lifted_DenPass (os : Os) (started : os.Started) (H : Type) (enc : TypeId × Value → H) :
    ReturnsInHanded {} Tryz.checked os 10 .any (Rows.denPassSpec.pre6 enc Tryz.prog Tryz.f10 Rows.denPassRow.domain false) (Rows.denPassSpec.post enc Tryz.prog Tryz.f10 false true false false) := by
  refine returnsInHanded_of_change (C := Tryz.checked) (show ownKnob Tryz.prog.godebug = none by kernel_rfl) started (by kernel_rfl) Tryz.func10
    (ChangeSpec.witness6 (enc := enc) (C := Tryz.checked) false ⟨#[], #[.int .i64 0, .slice none 0 0, .int .u8 0], []⟩ 8 (by kernel_rfl) (by kernel_rfl) (by kernel_rfl) (by kernel_rfl)) ?_
  intro W base args ds gs before hval0 hW hcnd _
  have hval : ∀ (j : Nat) t v, Tryz.f10.params[j]? = some t → args[j]? = some v → Value.okWide Tryz.prog W .any base t v := hval0
  have hW' := hW
  obtain ⟨p, q, hA0, hV, rfl, hfz, hnd⟩ := hW
  have hA : DataW.TrodAll enc Tryz.prog W 0 (fun _ => true) true Tryz.f10.params.toList args.toList ds p := hA0
  rw [Tryz.params10] at hA hval
  obtain ⟨v0, vs0, d0, ds0, p0, q0, hargs, rfl, rfl, h0, r0'⟩ := trodAll_cons hA
  obtain ⟨v1, vs1, d1, ds1, p1, q1, rfl, rfl, rfl, h1, r1'⟩ := trodAll_cons r0'
  obtain ⟨v2, vs2, d2, ds2, p2, q2, rfl, rfl, rfl, h2, r2'⟩ := trodAll_cons r1'
  obtain ⟨rfl, rfl, rfl⟩ := trodAll_nil r2'
  obtain rfl : args = #[v0, v1, v2] := by cases args; simp_all
  obtain ⟨rfl, rfl⟩ := trodVars_none hV
  have k0 := h0
  have lt0 : ∀ x ∈ p0, x.block < W.heap.size := by obtain ⟨m, hm⟩ := k0; exact DataW.trod_lt m _ _ _ hm
  have k1 := h1
  have lt1 : ∀ x ∈ p1, x.block < W.heap.size := by obtain ⟨m, hm⟩ := k1; exact DataW.trod_lt m _ _ _ hm
  have k2 := h2
  have lt2 : ∀ x ∈ p2, x.block < W.heap.size := by obtain ⟨m, hm⟩ := k2; exact DataW.trod_lt m _ _ _ hm
  obtain ⟨x0, rfl, w0⟩ := arg_int Tryz.underlying3 (hval 0 3 v0 rfl rfl) h0
  obtain ⟨A1, c1, e1, rfl, g1, m1, r1⟩ := arg_recs (hval 1 62 v1 rfl rfl) h1
  obtain ⟨x2, rfl, w2⟩ := arg_int Tryz.underlying5 (hval 2 5 v2 rfl rfl) h2
  clear hA0 hval0
  refine (walk_DenPass x0 A1 e1.length c1 e1 rfl g1 m1 x2 (u8_in w2) W r1).mono fun e W' ⟨he, bel⟩ => ?_
  subst he
  exact ⟨_, rfl, _, _, _, [], _, [], hW', trodAll_mk1 (shut_bool Tryz.underlying4 _), (trodAll_cons_mk (Below.trod (show laidOutB Tryz.prog = true by kernel_rfl) (by kernel_rfl) (of_decide_eq_true (by kernel_rfl)) k0 bel lt0) (trodAll_cons_mk (Below.trod (show laidOutB Tryz.prog = true by kernel_rfl) (by kernel_rfl) (of_decide_eq_true (by kernel_rfl)) k1 bel lt1) (trodAll_cons_mk (Below.trod (show laidOutB Tryz.prog = true by kernel_rfl) (by kernel_rfl) (of_decide_eq_true (by kernel_rfl)) k2 bel lt2) trodAll_mk0))), rfl, bel.frame _, fun h => by cases h⟩

theorem DenPass_holds : Rows.DenPassSaid :=
  OpenClaim.holds_of_wide 10 Tryz.f10 rfl rfl rfl rfl rfl rfl rfl ⟨rfl, rfl, rfl, rfl, rfl⟩ rfl rfl rfl rfl rfl (by kernel_rfl) Tryz.func10 (by kernel_rfl)
    (of_decide_eq_true (by kernel_rfl)) (by unfold Func.isWrapper; first | (rw [if_pos (by decide +kernel)]; kernel_rfl) | (rw [if_neg (by decide +kernel)]; exact ⟨rfl, rfl⟩))
    (fun os started H enc _ => lifted_DenPass os started H enc)
#print axioms DenPass_holds
end Go.Proofs.YtfakgidimekikaaGreat
