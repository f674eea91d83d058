/- forebaylaw01.OctetWrites: any numbers and texts are written as the document says, or refused, and read again. -/
import Derived.Test.YtkmkdodhahcpdaaOctetRef
import Derived.Test.YtkmkdodhahcpdaaArgs
namespace Go.Proofs.Ytkmkdodhahcpdaa
open Go.RowKit Go.Fb

theorem fourU_be (n : Int) (l : List Int) : fourU (be n ++ l) 4 = n % 4294967296 := by
  simp [fourU, be]
  omega
theorem fourI_be {n : Int} (h : fitsB n = true) : fourI (n % 4294967296) = n := by
  obtain ⟨h1, h2⟩ : -2147483648 ≤ n ∧ n ≤ 2147483647 := of_decide_eq_true h
  unfold fourI
  split <;> omega
theorem rnumOf_be {s : ByteArray} {n : Int} {l : List Int} (h : bl s = be n ++ l) (hf : fitsB n = true) : rnumOf s = (n, 0, s.extract 4 s.size) ∧ bl (s.extract 4 s.size) = l := by
  have hz : s.size = 4 + l.length := by rw [← bl_length, h, List.length_append, be_length]
  have hn : numOf s = n := by rw [numOf, h, fourU_be, fourI_be hf]
  refine ⟨?_, ?_⟩
  · rw [rnumOf, if_neg (by omega), hn]
  · rw [bl_extract, List.take_of_length_le (by rw [bl_length]; omega), h, List.drop_left' (be_length n)]
theorem rtextOf_be {s t : ByteArray} {l : List Int} (h : bl s = be t.size ++ (bl t ++ l)) (hf : t.size ≤ 1000000) : ∃ r, rtextOf s t.size = (t, 0, r) ∧ bl r = l := by
  have hz : s.size = 4 + (t.size + l.length) := by rw [← bl_length, h, List.length_append, be_length, List.length_append, bl_length]
  have hn : numOf s = t.size := by rw [numOf, h, fourU_be, fourI_be (by simp [fitsB]; omega)]
  refine ⟨s.extract (4 + t.size) s.size, ?_, ?_⟩
  · rw [rtextOf, if_neg (by omega), hn, if_neg (by omega), if_neg (by omega), Int.toNat_natCast]
    have : s.extract 4 (4 + t.size) = t := by
      apply bl_inj
      rw [bl_extract, h, ← List.append_assoc, List.take_left' (by rw [List.length_append, be_length, bl_length]), List.drop_left' (be_length _)]
    rw [this]
  · rw [bl_extract, List.take_of_length_le (by rw [bl_length]; omega), h, ← List.append_assoc, List.drop_left' (by rw [List.length_append, be_length, bl_length])]

set_option maxRecDepth 100000 in
set_option maxHeartbeats 2000000 in
theorem walk_OctetWrites (A : Option Addr) (n c : Nat) (xs : List Int) (hnc : n ≤ c) (_hcm : c ≤ maxLen) (s : ByteArray) (hs : s.size ≤ maxLen) (b : ByteArray) (hb : b.size ≤ maxLen) (w : World)
    (hr : Reads w w.heap.size 1 A n (xs.map (Value.int .i64))) (hwf : ∀ x ∈ xs, (Lit.int .i64 x).wf = true) :
    Calls Try.prog 14 #[.slice A n c, .string s, .string b] w fun e w' => e = .returned (.bool true) ∧ Below w.heap.size w w' := by
  unfold maxLen at _hcm hs hb
  have HR := Lib.hid hr
  have HWF := Lib.hid hwf
  clear hr hwf
  by_cases hn : n ≤ 100
  case neg =>
    go_enter Try.func14, Try.ntmps14
    go_wp2_with (go_at_call 15; refine (awake01 _).mono ?_; rintro e w1 ⟨rfl, hb1⟩)
    go_ret
    exact ⟨rfl, hb1⟩
  by_cases hs' : s.size ≤ 3000
  case neg =>
    go_enter Try.func14, Try.ntmps14
    go_wp2_with (go_at_call 15; refine (awake01 _).mono ?_; rintro e w1 ⟨rfl, hb1⟩)
    go_ret
    exact ⟨rfl, hb1⟩
  by_cases hb' : b.size ≤ 300
  case neg =>
    go_enter Try.func14, Try.ntmps14
    go_wp2_with (go_at_call 15; refine (awake01 _).mono ?_; rintro e w1 ⟨rfl, hb1⟩)
    go_ret
    exact ⟨rfl, hb1⟩
  have E1 := Lib.hid (show xs.length = n by simpa using HR.out.1)
  go_enter Try.func14, Try.ntmps14
  go_wp2_with (go_at_call 15; refine (awake01 _).mono ?_; rintro e w1 ⟨rfl, hb1⟩)
  obtain ⟨w2, hw2⟩ : ∃ w2, w2 = w1.alloc (.cells #[.slice none 0 0] 26) := ⟨_, rfl⟩
  rw [← hw2]
  have X2 : ∀ base, Wr base w2 w1.heap.size [] := fun base => by rw [hw2]; exact Wr.new w1 base
  have hsz := hb1.size
  have hb2 : Below w.heap.size w w2 := by rw [hw2]; exact hb1.alloc hsz _
  have hz2 : w2.heap.size = w1.heap.size + 1 := by rw [hw2]; simp
  have HX2 := Lib.hid X2
  generalize w1.heap.size = G at *
  clear hw2 hb1 X2
  have HZ := Lib.hid hz2
  have HB2 := Lib.hid hb2
  have R2 := Lib.hid ((HR.out.below hb2).more (B' := G) hsz)
  clear hb2 hz2 HR
  go_wp2_with fail
  go_loopw [8, 9, 37] (fun t o i wr => ∃ (k : Nat) (sW : ByteArray), k ≤ n ∧ i = .int .i64 k ∧ o = .bool ((xs.take k).all fitsB) ∧ t = .string sW ∧ sW.size = 4 * k ∧ ((xs.take k).all fitsB = true → bl sW = (xs.take k).flatMap be) ∧ Fr w2.heap.size [] w2 wr) (fun _ _ i _ => n - (intOf i).toNat)
  case atStart => exact ⟨0, ByteArray.empty, Nat.zero_le _, rfl, rfl, rfl, rfl, fun _ => by rw [bl_empty]; rfl, Fr.refl _ _ _⟩
  case round =>
    obtain ⟨k, sW, hk, rfl, rfl, rfl, hsW, hW, hfr⟩ := hrel
    have HSW := Lib.hid hsW
    have HW := Lib.hid hW
    have hsWb : sW.size ≤ 400 := by omega
    clear hsW hW
    by_cases hlt : k < n
    · obtain ⟨bk, off, u, rfl, hbk, hu, hcell⟩ := (R2.out.frL hfr (by have := HZ.out; omega) (by simp)).one hlt
      obtain ⟨x, hx, rfl⟩ : ∃ x, xs[k]? = some x ∧ Value.int .i64 x = u := by simpa using hu
      obtain ⟨x1, x2⟩ := bounds_i64 (HWF.out x (List.mem_of_getElem? hx))
      have htk : (xs.take (k + 1)) = xs.take k ++ [x] := by rw [List.take_add_one, hx]; rfl
      have HX := Lib.hid htk
      have HFR := Lib.hid hfr
      have hszr := hfr.size
      clear hx hu htk hfr
      by_cases hall : (xs.take k).all fitsB = true
      case pos =>
        rw [hall]
        have hnext : (xs.take (k + 1)).all fitsB = fitsB x := by rw [HX.out, List.all_append, hall]; simp
        have HNX := Lib.hid hnext
        have HALL := Lib.hid hall
        clear hall hnext
        go_wp2_with (go_at_call 53; refine (is_any _ _).mono ?_; rintro e w' ⟨rfl, rfl⟩)
        refine (put_any x _ x1 x2).mono ?_
        rintro e w3 ⟨sp, rfl, hp1, hp2, hf3⟩
        have HP1 := Lib.hid hp1
        have HP2 := Lib.hid hp2
        have HF3 := Lib.hid hf3
        have hp1' := Nat.le_of_eq hp1
        clear hp1 hp2 hf3
        go_wp2_with fail
        go_roundw
        case rel =>
          refine ⟨k + 1, _, by omega, by go_num, by rw [HNX.out], rfl, ?_, ?_, HFR.out.trans (HF3.out.mono (by omega) (by simp))⟩
          · rw [ByteArray.size_append, HSW.out, HP1.out]; omega
          · intro h
            rw [HNX.out] at h
            rw [bl_append, HW.out HALL.out, HP2.out h, bl_strOfNums (be_range x), HX.out, List.flatMap_append]
            simp
        case measure => simp [intOf]; omega
      case neg =>
        have hall' : (xs.take k).all fitsB = false := by simpa using hall
        rw [hall']
        have hnext : (xs.take (k + 1)).all fitsB = false := by rw [HX.out, List.all_append, hall']; simp
        have HNX := Lib.hid hnext
        clear hall hall' hnext
        go_wp2_with fail
        refine (put_any x _ x1 x2).mono ?_
        rintro e w3 ⟨sp, rfl, hp1, hp2, hf3⟩
        have HP1 := Lib.hid hp1
        have HF3 := Lib.hid hf3
        have hp1' := Nat.le_of_eq hp1
        clear hp1 hp2 hf3
        go_wp2_with fail
        go_roundw
        case rel =>
          refine ⟨k + 1, _, by omega, by go_num, by rw [HNX.out], rfl, ?_, ?_, HFR.out.trans (HF3.out.mono (by omega) (by simp))⟩
          · rw [ByteArray.size_append, HSW.out, HP1.out]; omega
          · intro h
            rw [HNX.out] at h
            cases h
        case measure => simp [intOf]; omega
    · obtain ⟨wo, rfl⟩ : ∃ wo : World, wo = wr := ⟨_, rfl⟩
      obtain rfl : k = n := by omega
      have htk : xs.take k = xs := List.take_of_length_le (Nat.le_of_eq E1.out)
      rw [htk] at HW ⊢
      have r3 := Lib.hid (R2.out.frL hfr (by have := HZ.out; omega) (by simp))
      have wr3 := Lib.hid ((HX2.out w2.heap.size).fr hfr (by have := HZ.out; omega) (Nat.le_refl _) (by simp))
      have HB3 := Lib.hid (HB2.out.trans (hfr.mono (B' := w.heap.size) (L' := []) HB2.out.size (by simp)).below)
      have hs3 := hfr.size
      clear hfr R2 HX2 HB2 htk
      obtain ⟨ok, hok⟩ : ∃ ok, xs.all fitsB = ok := ⟨_, rfl⟩
      rw [hok] at HW ⊢
      have HOK := Lib.hid hok
      clear hok
      cases ok
      case false =>
        have hE : (strOfNums []).toList.isEmpty = true := by rw [isEmpty_of_size, strOfNums_size]; rfl
        go_wp2_with fail
        refine (num_any w2.heap.size G A k c G xs [] _ (by omega) (by simp) wr3.out hs3 r3.out (by have := HZ.out; omega) (wr3.out.src r3.out (Nat.le_refl _) (by have := HZ.out; omega))).mono ?_
        rintro e w4 (⟨h, _⟩ | ⟨_, rfl, rfl⟩)
        · rw [HOK.out] at h; cases h
        go_wp2_with (go_at_call 17; refine (out_any _ _ _ _ wr3.out).mono ?_; rintro e w' ⟨rfl, rfl⟩)
        go_ret
        exact ⟨rfl, HB3.out⟩
      case true =>
        go_wp2_with fail
        refine (num_any w2.heap.size G A k c G xs [] _ (by omega) (by simp) wr3.out hs3 r3.out (by have := HZ.out; omega) (wr3.out.src r3.out (Nat.le_refl _) (by have := HZ.out; omega))).mono ?_
        rintro e w4 (⟨_, rfl, wr4, f4⟩ | ⟨h, _⟩)
        case inr => rw [HOK.out] at h; cases h
        rw [List.nil_append] at wr4
        have hl4 : (xs.flatMap be).length ≤ 400 := by rw [bes_length, E1.out]; omega
        have WR4 := Lib.hid wr4
        have r4 := Lib.hid (r3.out.frL f4 (by have := HZ.out; omega) (fun h0 ad e => by simpa using r3.out.apart (Nat.le_refl _) h0 ad e))
        have HB4 := Lib.hid (HB3.out.trans (f4.mono (B' := w.heap.size) (L' := []) (by have := HZ.out; omega) (by simp; omega)).below)
        have hs4 := f4.size
        clear wr4 f4 r3 wr3 HB3
        go_wp2_with fail
        refine (wtext_any w2.heap.size G s (xs.flatMap be) _ (by omega) (by omega) WR4.out (by omega)).mono ?_
        rintro e w5 ⟨rfl, wr5, f5⟩
        have WR5 := Lib.hid wr5
        have r5 := Lib.hid (r4.out.frL f5 (by have := HZ.out; omega) (fun h0 ad e => by simpa using r4.out.apart (Nat.le_refl _) h0 ad e))
        have HB5 := Lib.hid (HB4.out.trans (f5.mono (B' := w.heap.size) (L' := []) (by have := HZ.out; omega) (by simp; omega)).below)
        have hs5 := f5.size
        clear wr5 f5 r4 WR4 HB4
        obtain ⟨so, hso⟩ : ∃ so, so = strOfNums (xs.flatMap be ++ (be s.size ++ bl s)) := ⟨_, rfl⟩
        have hsor : ∀ x ∈ xs.flatMap be ++ (be s.size ++ bl s), 0 ≤ x ∧ x < 256 := by
          intro x hx
          rcases List.mem_append.1 hx with h | h
          · exact bes_range _ x h
          rcases List.mem_append.1 h with h | h
          · exact be_range _ x h
          · exact bl_range _ x h
        have hbso : bl so = xs.flatMap be ++ (be s.size ++ bl s) := by rw [hso, bl_strOfNums hsor]
        have hwant : sW ++ (strOfNums (be s.size) ++ s) = so := by
          apply bl_inj
          rw [hbso, bl_append, bl_append, HW.out trivial, bl_strOfNums (be_range _)]
        have hsosz : so.size ≤ 4000 := by rw [← bl_length, hbso, List.length_append, List.length_append, be_length, bl_length]; omega
        have hss : (strOfNums (be s.size) ++ s).size ≤ 3004 := by rw [ByteArray.size_append, strOfNums_size, be_length]; omega
        have hne : (so.toList == (sW ++ (strOfNums (be s.size) ++ s)).toList) = true := by rw [hwant]; simp
        have HSO := Lib.hid hso
        have HBSO := Lib.hid hbso
        have hout : ∀ w', Wr w2.heap.size w' G (xs.flatMap be ++ (be s.size ++ bl s)) → Calls Try.prog 17 #[.pointer (some ⟨G, 0, none⟩)] w' fun e w'' => e = .returned (.string so) ∧ w' = w'' := fun w' h => by rw [hso]; exact out_any _ _ _ _ h
        have HOUT := Lib.hid hout
        clear hso hsor hbso hwant hout
        go_wp2_with (go_at_call 17; refine (HOUT.out _ WR5.out).mono ?_; rintro e w' ⟨rfl, rfl⟩)
        refine (reftext_any s _ (by omega)).mono ?_
        rintro e w6 ⟨rfl, f6⟩
        have WR6 := Lib.hid (WR5.out.fr f6 (by have := HZ.out; omega) (Nat.le_refl _) (by simp))
        have r6 := Lib.hid (r5.out.frL f6 (by have := HZ.out; omega) (by simp))
        have HB6 := Lib.hid (HB5.out.trans (f6.mono (B' := w.heap.size) (L' := []) HB5.out.size (by simp)).below)
        have hs6 := f6.size
        clear f6 r5 WR5 HB5
        go_wp2_with (go_at_call 17; refine (HOUT.out _ WR6.out).mono ?_; rintro e w' ⟨rfl, rfl⟩)
        refine (new_any _ _).mono ?_
        rintro e w7 ⟨rfl, hw7⟩
        have rd7 : Rd w7 w6.heap.size (so ++ b) := by rw [hw7]; exact Blk.new _ _ _
        have f7 : Fr w6.heap.size [] w6 w7 := by rw [hw7]; exact (Fr.refl _ _ _).alloc (Nat.le_refl _) _
        have r7 := Lib.hid (r6.out.frL f7 (by have := HZ.out; omega) (by simp))
        have HB7 := Lib.hid (HB6.out.trans (f7.mono (B' := w.heap.size) (L' := []) HB6.out.size (by simp)).below)
        have hs7 := f7.size
        have hbl : bl (so ++ b) = xs.flatMap be ++ (be s.size ++ (bl s ++ bl b)) := by rw [bl_append, HBSO.out]; simp
        have HBL := Lib.hid hbl
        have RD7 := Lib.hid rd7
        have hG6 : G + 1 ≤ w6.heap.size := by have := HZ.out; omega
        generalize w6.heap.size = g at *
        have hgw : g < w7.heap.size := RD7.out.lt
        have hsz7 : (so ++ b).size ≤ 4400 := by rw [ByteArray.size_append]; omega
        generalize so ++ b = sb at *
        clear hw7 f7 r6 HB6 WR6 hbl rd7 HOUT HBSO HSO hne hss hsosz hs6 hs5 hs4 hs3 hl4 HW HSW hsWb
        go_wp2_with fail
        go_loopw [82] (fun i wr => ∃ (j : Nat) (sr : ByteArray), j ≤ k ∧ i = .int .i64 j ∧ Rd wr g sr ∧ bl sr = (xs.drop j).flatMap be ++ (be s.size ++ (bl s ++ bl b)) ∧ Fr w7.heap.size [g] w7 wr) (fun i _ => k - (intOf i).toNat)
        case atStart => exact ⟨0, sb, Nat.zero_le _, rfl, RD7.out, HBL.out, Fr.refl _ _ _⟩
        case round =>
          obtain ⟨j, sr, hj, rfl, rd, hsr, hfr⟩ := hrel
          have HSR := Lib.hid hsr
          have RD := Lib.hid rd
          have hlen : sr.size ≤ 10000 := by
            rw [← bl_length, hsr]
            simp only [List.length_append, bes_length, be_length, bl_length, List.length_drop]
            have := E1.out
            omega
          have hszr := hfr.size
          clear hsr rd
          by_cases hlt : j < k
          · obtain ⟨bk, off, u, rfl, hbk, hu, hcell⟩ := (r7.out.frL hfr (by omega) (fun h0 ad e => by simpa using r7.out.apart (g := g) (by omega) h0 ad e)).one hlt
            obtain ⟨x, hx, rfl⟩ : ∃ x, xs[j]? = some x ∧ Value.int .i64 x = u := by simpa using hu
            have hfx : fitsB x = true := List.all_eq_true.1 HOK.out x (List.mem_of_getElem? hx)
            have hdrop : xs.drop j = x :: xs.drop (j + 1) := by
              rw [← List.getElem_cons_drop (by have := E1.out; omega)]
              rw [List.getElem?_eq_getElem (by have := E1.out; omega)] at hx
              injection hx with hx
              rw [hx]
            obtain ⟨hrn, hrl⟩ := rnumOf_be (s := sr) (n := x) (l := (xs.drop (j + 1)).flatMap be ++ (be s.size ++ (bl s ++ bl b))) (by rw [HSR.out, hdrop, List.flatMap_cons]; simp) hfx
            have hnum := rnum_any g sr wr RD.out (by unfold maxLen; omega)
            rw [hrn] at hnum
            have HNUM := Lib.hid hnum
            have HRL := Lib.hid hrl
            have HFR := Lib.hid hfr
            clear hx hu hfx hdrop hrn hrl hnum hfr
            go_wp2_with fail
            refine HNUM.out.mono ?_
            rintro e w8 ⟨rfl, rd8, f8⟩
            have RD8 := Lib.hid rd8
            have F8 := Lib.hid f8
            clear rd8 f8
            go_wp2_with fail
            go_roundw
            case rel => exact ⟨j + 1, _, by omega, by go_num, RD8.out, HRL.out, HFR.out.trans (F8.out.mono (by omega) (by simp))⟩
            case measure => simp [intOf]; omega
          · obtain rfl : j = k := by omega
            obtain ⟨rr, hrt, hrl⟩ := rtextOf_be (s := sr) (t := s) (l := bl b) (by rw [HSR.out, List.drop_of_length_le (by have := E1.out; omega)]; rfl) (by omega)
            have htx := rtext_any g sr s.size wr RD.out (by unfold maxLen; omega)
            rw [hrt] at htx
            have hrz : rr.size = b.size := by rw [← bl_length, hrl, bl_length]
            have HTX := Lib.hid htx
            have HRZ := Lib.hid hrz
            have HB8 := Lib.hid (HB7.out.trans (hfr.mono (B' := w.heap.size) (L' := []) HB7.out.size (by simp; omega)).below)
            clear hrt hrl hrz htx hfr
            go_wp2_with fail
            refine HTX.out.mono ?_
            rintro e w8 ⟨rfl, rd8, f8⟩
            have HB9 := Lib.hid (HB8.out.trans (f8.mono (B' := w.heap.size) (L' := []) HB8.out.size (by simp; omega)).below)
            have hlf := left_any g rr w8 rd8
            have hen := end_any g rr w8 rd8
            rw [HRZ.out] at hlf hen
            have HLF := Lib.hid hlf
            have HEN := Lib.hid hen
            clear rd8 f8 hlf hen
            have hbe := isEmpty_of_size (s := b)
            by_cases hb0 : b.size = 0
            · rw [hb0] at hbe
              rw [if_pos hb0] at HEN
              have hbe' : b.toList.isEmpty = true := by rw [hbe]; rfl
              clear hbe
              have HB0 := Lib.hid hb0
              clear hb0
              go_wp2_with (first | (go_at_call 48; refine HLF.out.mono ?_; rintro e w' ⟨rfl, rfl⟩) | (go_at_call 52; refine HEN.out.mono ?_; rintro e w' ⟨rfl, rfl⟩))
              go_ret
              exact ⟨rfl, HB9.out⟩
            · have hbe' : b.toList.isEmpty = false := by rw [hbe]; simpa using hb0
              rw [if_neg hb0] at HEN
              clear hbe hb0
              go_wp2_with (first | (go_at_call 48; refine HLF.out.mono ?_; rintro e w' ⟨rfl, rfl⟩) | (go_at_call 52; refine HEN.out.mono ?_; rintro e w' ⟨rfl, rfl⟩))
              go_ret
              exact ⟨rfl, HB9.out⟩
end Go.Proofs.Ytkmkdodhahcpdaa
