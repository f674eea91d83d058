/- forebaylaw01.OctetUnlike: unlike lists of numbers have unlike bytes. -/
import Derived.Test.YtkmkdodhahcpdaaOctet
namespace Go.Proofs.Ytkmkdodhahcpdaa
open Go.RowKit Go.Fb

set_option maxRecDepth 100000 in
theorem unlike_walk (A1 A2 : Option Addr) (n1 n2 c1 c2 : Nat) (xs ys : List Int) (w : World) (h1 : Reads w w.heap.size 1 A1 n1 (xs.map (Value.int .i64))) (h2 : Reads w w.heap.size 1 A2 n2 (ys.map (Value.int .i64))) (hm1 : n1 ≤ maxLen) (hm2 : n2 ≤ maxLen) :
    Calls Try.prog 3 #[.slice A1 n1 c1, .slice A2 n2 c2] w fun e w' => e = .returned (.bool true) ∧ Below w.heap.size w w' := by
  unfold maxLen at hm1 hm2
  have H1 := Lib.hid h1
  have H2 := Lib.hid h2
  clear h1 h2
  by_cases hn1 : n1 ≤ 60
  case neg =>
    go_enter Try.func3, Try.ntmps3
    go_wp2_with (go_at_call 15; refine (awake01 _).mono ?_; rintro e w1 ⟨rfl, hb1⟩)
    go_ret
    exact ⟨rfl, hb1⟩
  by_cases hn2 : n2 ≤ 60
  case neg =>
    go_enter Try.func3, Try.ntmps3
    go_wp2_with (go_at_call 15; refine (awake01 _).mono ?_; rintro e w1 ⟨rfl, hb1⟩)
    go_ret
    exact ⟨rfl, hb1⟩
  have e1 : xs.length = n1 := by simpa using H1.out.1
  have e2 : ys.length = n2 := by simpa using H2.out.1
  have E1 := Lib.hid e1
  have E2 := Lib.hid e2
  clear e1 e2
  go_enter Try.func3, Try.ntmps3
  go_wp2_with (go_at_call 15; refine (awake01 _).mono ?_; rintro e w1 ⟨rfl, hb1⟩)
  obtain ⟨w2, hw2⟩ : ∃ w2, w2 = ((w1.alloc (.cells #[.slice none 0 0] 26)).alloc (.cells #[.slice none 0 0] 26)).alloc (.cells #[.slice none 0 0] 26) := ⟨_, rfl⟩
  rw [← hw2]
  have hz2 : w2.heap.size = w1.heap.size + 3 := by rw [hw2]; simp
  have X2 : ∀ base, Wr base w2 w1.heap.size [] := fun base => by
    rw [hw2]
    exact ((Wr.new w1 base).fr ((Fr.refl (w1.heap.size + 1) [] _).alloc (by simp) _) (by omega) (by simp) (by simp)).fr ((Fr.refl (w1.heap.size + 2) [] _).alloc (by simp) _) (by omega) (by simp) (by simp)
  have Y2 : ∀ base, Wr base w2 (w1.heap.size + 1) [] := fun base => by
    have h := Wr.new (w1.alloc (.cells #[.slice none 0 0] 26)) base
    rw [show (w1.alloc (.cells #[.slice none 0 0] 26)).heap.size = w1.heap.size + 1 by simp] at h
    rw [hw2]
    exact h.fr ((Fr.refl (w1.heap.size + 2) [] _).alloc (by simp) _) (by omega) (by simp) (by simp)
  have Z2 : ∀ base, Wr base w2 (w1.heap.size + 2) [] := fun base => by
    have h := Wr.new ((w1.alloc (.cells #[.slice none 0 0] 26)).alloc (.cells #[.slice none 0 0] 26)) base
    rw [show ((w1.alloc (.cells #[.slice none 0 0] 26)).alloc (.cells #[.slice none 0 0] 26)).heap.size = w1.heap.size + 2 by simp] at h
    rw [hw2]
    exact h
  have hsz := hb1.size
  have hb2 : Below w.heap.size w w2 := by
    rw [hw2]
    exact ((hb1.alloc hsz _).alloc (by simp; omega) _).alloc (by simp; omega) _
  generalize w1.heap.size = G at *
  clear hw2 hb1
  have HZ := Lib.hid hz2
  have hG : w.heap.size ≤ G := hsz
  have r1 := (H1.out.below hb2).more (B' := G) hG
  have r2 := (H2.out.below hb2).more (B' := G) hG
  have R1 := Lib.hid r1
  have R2 := Lib.hid r2
  have Hb2 := Lib.hid hb2
  clear r1 r2 hb2 hz2
  refine (num_any w2.heap.size G A1 n1 c1 G xs [] w2 (by omega) (by simp) (X2 _) (Nat.le_refl _) R1.out (by have := HZ.out; omega) ((X2 w2.heap.size).src R1.out (Nat.le_refl _) (by have := HZ.out; omega))).mono ?_
  rintro e w3 hx
  have hx' : ∃ r, e = .returned (.int .i64 r) ∧ Fr w2.heap.size [G] w2 w3 ∧ (r = 0 ∧ xs.all fitsB = true ∧ Wr w2.heap.size w3 G (xs.flatMap be) ∨ r = 2) := by
    rcases hx with ⟨h1, rfl, h3, h4⟩ | ⟨h1, rfl, rfl⟩
    · exact ⟨_, rfl, h4, .inl ⟨rfl, h1, by simpa using h3⟩⟩
    · exact ⟨_, rfl, Fr.refl _ _ _, .inr rfl⟩
  clear hx
  obtain ⟨rx, rfl, fx, hx⟩ := hx'
  have Y3 : ∀ base, G < base → Wr base w3 (G + 1) [] := fun base hb => (Y2 base).fr fx (by rw [HZ.out]; omega) (Nat.le_refl _) (by simp; omega)
  have Z3 : ∀ base, G < base → Wr base w3 (G + 2) [] := fun base hb => (Z2 base).fr fx (by rw [HZ.out]; omega) (Nat.le_refl _) (by simp; omega)
  have sx := fx.size
  have r2 := R2.out.frL fx (by rw [HZ.out]; omega) (fun h0 ad e => by simpa using R2.out.apart (Nat.le_refl _) h0 ad e)
  have R2' := Lib.hid r2
  have FX := Lib.hid fx
  have HX := Lib.hid hx
  clear r2 fx hx
  go_wp2_with fail
  refine (num_any w3.heap.size (G + 1) A2 n2 c2 G ys [] w3 (by omega) (by simp) (Y3 _ (by have := HZ.out; omega)) (Nat.le_refl _) R2'.out (by have := HZ.out; omega) ((Y3 w3.heap.size (by have := HZ.out; omega)).src R2'.out (by omega) (by have := HZ.out; omega))).mono ?_
  rintro e w4 hx
  have hx' : ∃ r, e = .returned (.int .i64 r) ∧ Fr w3.heap.size [G + 1] w3 w4 ∧ (r = 0 ∧ ys.all fitsB = true ∧ Wr w3.heap.size w4 (G + 1) (ys.flatMap be) ∨ r = 2) := by
    rcases hx with ⟨h1, rfl, h3, h4⟩ | ⟨h1, rfl, rfl⟩
    · exact ⟨_, rfl, h4, .inl ⟨rfl, h1, by simpa using h3⟩⟩
    · exact ⟨_, rfl, Fr.refl _ _ _, .inr rfl⟩
  clear hx
  obtain ⟨ry, rfl, fy, hy⟩ := hx'
  have Z4 : ∀ base, G + 1 < base → Wr base w4 (G + 2) [] := fun base hb => (Z3 base (by omega)).fr fy (by have := HZ.out; omega) (Nat.le_refl _) (by simp; omega)
  have sy := fy.size
  have bxy : Below w.heap.size w w4 := (Hb2.out.trans (FX.out.mono (B' := w.heap.size) (L' := []) (by have := HZ.out; omega) (by simp; omega)).below).trans (fy.mono (B' := w.heap.size) (L' := []) (by have := HZ.out; omega) (by simp; omega)).below
  have BXY := Lib.hid bxy
  have FY := Lib.hid fy
  clear fy bxy
  by_cases hrx : rx = 0
  case neg =>
    have hb : (rx != 0) = true := by simpa using hrx
    clear hrx hy
    go_wp2_with fail
    go_ret
    exact ⟨rfl, BXY.out⟩
  subst hrx
  by_cases hry : ry = 0
  case neg =>
    have hb : (ry != 0) = true := by simpa using hry
    clear hry hy
    go_wp2_with fail
    go_ret
    exact ⟨rfl, BXY.out⟩
  subst hry
  obtain ⟨-, allx, WX⟩ := HX.out.resolve_right (by decide)
  obtain ⟨-, ally, WY⟩ := hy.resolve_right (by decide)
  have WX4 : Wr w2.heap.size w4 G (xs.flatMap be) := WX.fr FY.out (by have := HZ.out; omega) (Nat.le_refl _) (by simp; have := HZ.out; omega)
  have r1 : Reads w4 G 1 A1 n1 (xs.map (Value.int .i64)) := (R1.out.frL FX.out (by have := HZ.out; omega) (fun h0 ad e => by simpa using R1.out.apart (Nat.le_refl _) h0 ad e)).frL FY.out (by have := HZ.out; omega) (fun h0 ad e => by simpa using R1.out.apart (g := G + 1) (by omega) h0 ad e)
  have r2 : Reads w4 G 1 A2 n2 (ys.map (Value.int .i64)) := R2'.out.frL FY.out (by have := HZ.out; omega) (fun h0 ad e => by simpa using R2'.out.apart (g := G + 1) (by omega) h0 ad e)
  have WYH := Lib.hid WY
  have WXH := Lib.hid WX4
  have RR1 := Lib.hid r1
  have RR2 := Lib.hid r2
  have ALX := Lib.hid allx
  have ALY := Lib.hid ally
  clear hy WX WY WX4 HX FX FY R1 R2 R2' X2 Y2 Y3 Z2 Z3 H1 H2 Hb2 r1 r2 allx ally
  have hz3 : G + 3 ≤ w3.heap.size := by have := HZ.out; omega
  have hz4 : G + 3 ≤ w4.heap.size := by omega
  go_wp2_with fail
  go_loopw [36] (fun i wr => ∃ k : Nat, k ≤ n1 ∧ i = .int .i64 k ∧ Wr w4.heap.size wr (G + 2) ((xs.take k).flatMap be) ∧ Fr w4.heap.size [G + 2] w4 wr) (fun i _ => n1 - (intOf i).toNat)
  case atStart => exact ⟨0, Nat.zero_le _, rfl, by simpa using Z4 _ (by omega), Fr.refl _ _ _⟩
  case round =>
    obtain ⟨k, hk, rfl, wz, fz⟩ := hrel
    by_cases hlt : k < n1
    · obtain ⟨b, off, u, rfl, hb, hu, hcell⟩ := (RR1.out.frL fz (by omega) (fun h0 ad e => by simpa using RR1.out.apart (g := G + 2) (by omega) h0 ad e)).one hlt
      obtain ⟨x, hx, rfl⟩ : ∃ x, xs[k]? = some x ∧ Value.int .i64 x = u := by simpa using hu
      have hxf : fitsB x = true := List.all_eq_true.1 ALX.out x (List.mem_of_getElem? hx)
      have HX := Lib.hid hx
      have HXF := Lib.hid hxf
      have FZ := Lib.hid fz
      have hszz := fz.size
      clear hx hu hxf fz
      have hbk : ((xs.take k).flatMap be).length ≤ 10000 := by rw [bes_length, List.length_take]; omega
      go_wp2_with fail
      refine (num_any w4.heap.size (G + 2) _ 1 1 (wr.heap.size + 1) [x] ((xs.take k).flatMap be) _ (by omega) (by omega) (wz.fr ((Fr.refl wr.heap.size [] wr).alloc (Nat.le_refl _) _) (by omega) (Nat.le_refl _) (by simp)) (by simp; omega) (Reads.of_blk (Blk.new _ _ _) rfl) (by simp) ?_).mono ?_
      · rintro - ad e
        injection e with e
        subst e
        exact wz.apart_new ((Fr.refl _ _ _).alloc (Nat.le_refl _) _)
      rintro e w5 (⟨_, rfl, wz5, fz5⟩ | ⟨h, _⟩)
      · have FZ5 := Lib.hid fz5
        have WZ5 := Lib.hid wz5
        clear wz fz5 wz5
        go_wp2_with fail
        go_roundw
        case rel => 
          have hxs : xs.take (k + 1) = xs.take k ++ [x] := by rw [List.take_add_one, HX.out]; rfl
          exact ⟨k + 1, by omega, by go_num, by rw [hxs, List.flatMap_append]; exact WZ5.out, FZ.out.trans (((Fr.refl _ _ _).alloc (by omega) _).trans FZ5.out)⟩
        case measure => simp [intOf]; omega
      · exact absurd h (by simp [HXF.out])
    · obtain ⟨wo, rfl⟩ : ∃ wo : World, wo = wr := ⟨_, rfl⟩
      obtain rfl : k = n1 := by omega
      have htk : xs.take k = xs := List.take_of_length_le (Nat.le_of_eq E1.out)
      rw [htk] at wz
      have r1 := RR1.out.frL fz (by omega) (fun h0 ad e => by simpa using RR1.out.apart (g := G + 2) (by omega) h0 ad e)
      have r2 := RR2.out.frL fz (by omega) (fun h0 ad e => by simpa using RR2.out.apart (g := G + 2) (by omega) h0 ad e)
      have hzz := HZ.out
      have wx := WXH.out.fr fz (by omega) (Nat.le_refl _) (by simp; omega)
      have wy := WYH.out.fr fz (by omega) (Nat.le_refl _) (by simp; omega)
      have R1 := Lib.hid r1
      have R2 := Lib.hid r2
      have WX := Lib.hid wx
      have WY := Lib.hid wy
      have WZ := Lib.hid wz
      have FZ := Lib.hid fz
      clear r1 r2 wx wy wz fz hzz RR1 RR2 WXH WYH Z4 hk hlt
      obtain ⟨S, hS⟩ : ∃ S : Nat → Bool, ∀ j, S j = (decide (xs.length = ys.length) && (xs.take j == ys.take j)) := ⟨_, fun _ => rfl⟩
      have hS0 : S 0 = ((k : Int) == (n2 : Int)) := by
        rw [hS, E1.out, E2.out]
        by_cases h : k = n2
        · subst h; simp
        · have : ¬ (k : Int) = (n2 : Int) := by omega
          simp [h, this]
      have hSM : ∀ j j', j ≤ j' → S j = false → S j' = false := by
        intro j j' hjj h
        rw [hS] at h ⊢
        by_cases he : xs.length = ys.length
        · simp only [he, decide_true, Bool.true_and, beq_eq_false_iff_ne, ne_eq] at h ⊢
          intro h'
          apply h
          have := congrArg (List.take j) h'
          rwa [List.take_take, List.take_take, Nat.min_eq_left hjj] at this
        · simp [he]
      have HSM := Lib.hid hSM
      have HS := Lib.hid hS
      have HS0 := Lib.hid hS0
      clear hS hS0 hSM
      go_wp2_with fail
      go_loopw [12, 13] (fun s i wr => ∃ j m : Nat, j ≤ k ∧ i = .int .i64 j ∧ s = .bool (S j) ∧ wr = wo.drewN m ∧ ∀ j', j ≤ j' → S j = false → S j' = false) (fun _ i _ => k - (intOf i).toNat)
      case atStart => exact ⟨0, 0, Nat.zero_le _, rfl, by rw [HS0.out], rfl, fun j' _ => HSM.out 0 j' (by omega)⟩
      case round =>
        obtain ⟨j, m, hj, rfl, rfl, rfl, hmono⟩ := hrel
        have HM := Lib.hid hmono
        clear hmono
        by_cases hs : S j = true
        · have hkn : k = n2 := by
            have := HS.out j
            rw [hs] at this
            simp only [Bool.true_eq, Bool.and_eq_true, decide_eq_true_eq] at this
            rw [← E1.out, ← E2.out]; exact this.1
          by_cases hlt : j < k
          · obtain ⟨b1, o1, u1, rfl, hb1, hu1, hc1⟩ := R1.out.one hlt
            obtain ⟨x, hx, rfl⟩ : ∃ x, xs[j]? = some x ∧ Value.int .i64 x = u1 := by simpa using hu1
            obtain ⟨b2, o2, u2, rfl, hb2, hu2, hc2⟩ := R2.out.one (show j < n2 by omega)
            obtain ⟨y, hy, rfl⟩ : ∃ y, ys[j]? = some y ∧ Value.int .i64 y = u2 := by simpa using hu2
            have hi1 : (j : Int) < (k : Int) := by omega
            have hi2 : (j : Int) < (n2 : Int) := by omega
            have hnext : S (j + 1) = (x == y) := by
              have h0 := HS.out j
              rw [HS.out (j + 1)]
              rw [hs] at h0
              simp only [Bool.true_eq, Bool.and_eq_true, decide_eq_true_eq, beq_iff_eq] at h0
              rw [List.take_add_one, List.take_add_one, hx, hy, h0.1, h0.2]
              simp
            have HX := Lib.hid hx
            have HY := Lib.hid hy
            have HN := Lib.hid hnext
            have HK := Lib.hid hkn
            have HSS := Lib.hid hs
            rw [hs]
            clear hx hy hu1 hu2 hnext hkn hs
            go_wp2_with fail
            go_quiet (fail)
            go_wp2_with fail
            go_roundw
            case rel => exact ⟨j + 1, m + nq, by omega, by go_num, by rw [HN.out], by first | rfl | rw [World.drewN_drewN], fun j' h => HSM.out (j + 1) j' h⟩
            case measure => simp [intOf]; omega
          · obtain rfl : j = k := by omega
            rw [hs]
            have HSS := Lib.hid hs
            have HK := Lib.hid hkn
            clear hs hkn
            have hxy : xs = ys := by
              have h := HS.out j
              rw [HSS.out] at h
              simp only [Bool.true_eq, Bool.and_eq_true, decide_eq_true_eq, beq_iff_eq] at h
              rw [htk, List.take_of_length_le (by have := E2.out; have := HK.out; omega)] at h
              exact h.2
            subst hxy
            have wx := WX.out
            have wy := WY.out
            have wz := WZ.out
            have hlen : ((strOfNums (xs.flatMap be)).size : Int) = 4 * (j : Int) := by
              rw [strOfNums_size, bes_length, E1.out]; omega
            clear htk WX WY WZ HS
            go_wp2_with (go_at_call 17; first | (refine (out_any _ _ _ _ (by exact wx)).mono ?_; rintro e w' ⟨rfl, rfl⟩) | (refine (out_any _ _ _ _ (by exact wy)).mono ?_; rintro e w' ⟨rfl, rfl⟩) | (refine (out_any _ _ _ _ (by exact wz)).mono ?_; rintro e w' ⟨rfl, rfl⟩))
            go_ret
            exact ⟨by simp, (BXY.out.trans (FZ.out.mono (by omega) (by simp; omega) : Fr w.heap.size [] w4 wo).below).drewN m⟩
        · have hs' : S j = false := by simpa using hs
          rw [hs']
          have hxy : ((strOfNums (xs.flatMap be)).toList == (strOfNums (ys.flatMap be)).toList) = false := by
            rw [ByteArray.toList_eq, ByteArray.toList_eq, beq_eq_false_iff_ne]
            intro h
            have h1 : strOfNums (xs.flatMap be) = strOfNums (ys.flatMap be) := WideShapes.bytes_inj h
            have h2 := bes_inj ALX.out ALY.out ((strOfNums_eq (bes_range _) (bes_range _)).1 h1)
            have h3 := HS.out j
            rw [hs', h2] at h3
            simp at h3
          have wx := WX.out
          have wy := WY.out
          have wz := WZ.out
          have hlen : ((strOfNums (xs.flatMap be)).size : Int) = 4 * (k : Int) := by
            rw [strOfNums_size, bes_length, E1.out]; omega
          clear hs hs' htk WX WY WZ HS
          go_wp2_with (go_at_call 17; first | (refine (out_any _ _ _ _ (by exact wx)).mono ?_; rintro e w' ⟨rfl, rfl⟩) | (refine (out_any _ _ _ _ (by exact wy)).mono ?_; rintro e w' ⟨rfl, rfl⟩) | (refine (out_any _ _ _ _ (by exact wz)).mono ?_; rintro e w' ⟨rfl, rfl⟩))
          go_ret
          exact ⟨by simp, (BXY.out.trans (FZ.out.mono (by omega) (by simp; omega) : Fr w.heap.size [] w4 wo).below).drewN m⟩
end Go.Proofs.Ytkmkdodhahcpdaa
