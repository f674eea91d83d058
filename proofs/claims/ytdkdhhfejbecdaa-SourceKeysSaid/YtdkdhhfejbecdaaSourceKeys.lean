/- The law SourceKeys: the walk. -/
import Derived.Test.YtdkdhhfejbecdaaSrcKP
import Derived.Deep.RegionHeld3
namespace Go.Proofs.Ytdkdhhfejbecdaa
open Go.RowKit Go.Fb
theorem sumK_len {ls : List (Nat → Int)} : ∀ {K : List Int}, (∀ k ∈ K, ofK ls k ≠ []) → (K.length : Int) ≤ sumK ls K
  | [], _ => Int.le_refl _
  | k :: K, h => by
    have h1 := sumK_len (ls := ls) (K := K) fun k hk => h k (by simp [hk])
    have h2 := List.length_pos_iff.2 (h k (by simp))
    rw [sumK_cons]
    simp only [List.length_cons]
    omega
set_option maxRecDepth 100000 in
theorem skeys_nil (w : World) : Calls Try.prog 30 #[.pointer none] w fun e w' => e = .returned (.slice none 0 0) ∧ Fr w.heap.size [] w w' := by
  have HL := Lib.hid slens_nil
  have HU := Lib.hid supto_nil
  have HS := Lib.hid (fun w => Any.slices_Sort_int_none Try.sortI none 0 w)
  have HC := Lib.hid (fun w => Any.slices_Compact_int_empty Try.compactI none 0 w)
  go_enter Try.func30, Try.ntmps30
  go_wp2_with fail
  refine (HL.out _).mono ?_
  rintro o w' ⟨rfl, rfl⟩
  go_wp2_with fail
  refine (HU.out _ _).mono ?_
  rintro o w' ⟨rfl, rfl⟩
  go_wp2_with fail
  refine wp_loop_rounds 1 ?_
  rw [rounds_succ]
  go_wp2_with fail
  refine (HS.out _).mono ?_
  rintro o w' ⟨rfl, rfl⟩
  go_wp2_with fail
  refine (HC.out _).mono ?_
  rintro o w' ⟨rfl, rfl⟩
  go_wp2_with fail
  go_ret
  exact ⟨rfl, Fr.refl _ _ _⟩
set_option maxRecDepth 100000 in
theorem sof_nil (key : Int) (w : World) : Calls Try.prog 32 #[.pointer none, .int .i64 key] w fun e w' => e = .returned (.slice none 0 0) ∧ Fr w.heap.size [] w w' := by
  have HL := Lib.hid slens_nil
  have HU := Lib.hid supto_nil
  have BK := Lib.hid (Blk.new w 3 #[.int .i64 key])
  have F1 := Lib.hid ((Fr.refl w.heap.size [] w).alloc (Nat.le_refl _) (.cells #[.int .i64 key] 3))
  have hent := enters_of Try.func77 (by kernel_rfl) rfl
  go_enter Try.func32, Try.ntmps32
  go_wp2_with fail
  generalize w.alloc (.cells #[.int .i64 key] 3) = w1 at *
  refine (HL.out _).mono ?_
  rintro o w' ⟨rfl, rfl⟩
  go_wp2_with fail
  refine (HU.out _ _).mono ?_
  rintro o w' ⟨rfl, rfl⟩
  have HDL := Lib.hid (delrec_nil 77 #[.pointer (some ⟨w.heap.size, 0, none⟩)] (fun x => decide (x 0 = key)) none 0 w1 hent (fun x w' hf => unkey_any key w.heap.size x w' (BK.out.fr hf BK.out.lt (by simp))))
  go_wp2_with fail
  refine HDL.out.mono ?_
  rintro e w4 ⟨rfl, f4⟩
  have F4 := Lib.hid (F1.out.trans (f4.mono (B' := w.heap.size) (L' := []) F1.out.size (by simp)))
  clear f4 HDL
  go_wp2_with fail
  go_ret
  exact ⟨rfl, F4.out⟩
set_option maxRecDepth 100000 in
set_option maxHeartbeats 8000000 in
theorem walk_SourceKeys (id kind par : Int) (u2 u3 : Value) (r : Nat → Int) (A : Option Addr) (c : Nat) (xs : List (Nat → Int)) (hnc : xs.length ≤ c) (hc : c ≤ maxLen) (w : World) (hr : Reads w w.heap.size 3 A xs.length (cellsR xs)) :
    Calls Try.prog 5 #[.agg (nodeV id kind par u2 u3 r), .slice A xs.length c] w fun e w' => e = .returned (.bool true) ∧ Below w.heap.size w w' := by
  have hm := Nat.le_trans hnc hc
  unfold maxLen at hm
  have HK := Lib.hid hr
  obtain ⟨n, hn⟩ : ∃ n, n = xs.length := ⟨_, rfl⟩
  rw [← hn] at hm hnc ⊢
  have HN := Lib.hid hn
  clear hr hc hn
  go_enter Try.func5, Try.ntmps5
  go_wp2_with fail
  have hb := Blk.new w 55 (nodeV id kind par u2 u3 r)
  have b0 := (Below.refl _ w).alloc (Nat.le_refl _) (.cells (nodeV id kind par u2 u3 r) 55)
  generalize w.alloc _ = w1 at *
  refine (awake18 _).mono ?_
  rintro e w2 ⟨rfl, f1⟩
  have BN := Lib.hid (hb.fr f1 hb.lt (by simp))
  have BL2 := Lib.hid (b0.trans (f1.below.mono b0.size))
  clear hb b0 f1
  by_cases h200 : n ≤ 200
  case neg =>
    have hd200 : decide (200 < (n : Int)) = true := decide_eq_true (by omega)
    go_wp2_with fail
    go_ret
    exact ⟨rfl, BL2.out⟩
  have hd200 : decide (200 < (n : Int)) = false := decide_eq_false (by omega)
  have HNW := snew_any id kind par u2 u3 r w2
  unfold NewOut at HNW
  have HNW := Lib.hid HNW
  have c0 := BN.out.cell 0
  have c1 := BN.out.cell 1
  have c2 := BN.out.cell 2
  have c3 := BN.out.cell 3
  have c4 := BN.out.cell 4
  have c5 := BN.out.cell 5
  have c6 := BN.out.cell 6
  have c7 := BN.out.cell 7
  have c8 := BN.out.cell 8
  have c9 := BN.out.cell 9
  have c10 := BN.out.cell 10
  have c11 := BN.out.cell 11
  have c12 := BN.out.cell 12
  simp at c0 c1 c2 c3 c4 c5 c6 c7 c8 c9 c10 c11 c12
  go_wp2_with fail
  refine HNW.out.mono ?_
  rintro e w3 (⟨rfl, hrt, P, gs, gp, rfl, rfl, hsp, f3⟩ | ⟨_, rfl, f3⟩)
  case inr =>
    have BL3 := Lib.hid (BL2.out.trans (f3.below.mono BL2.out.size))
    clear f3
    go_wp2_with fail
    go_ret
    exact ⟨rfl, BL3.out⟩
  have HP := Lib.hid hsp.pos
  have BL3 := Lib.hid (BL2.out.trans (f3.below.mono BL2.out.size))
  have HRT := Lib.hid hrt
  have h23 := f3.size
  have HAP := append_any hsp h23 hrt xs A c w.heap.size (fun i _ => by simp only [noR, List.length_nil]; rw [← HN.out]; omega) (HK.out.below BL3.out) BL2.out.size
  obtain ⟨G, hG⟩ : ∃ G, G = goodN xs := ⟨_, rfl⟩
  rw [← hG, ← HN.out] at HAP
  have hGn : G ≤ n := by rw [hG, HN.out]; exact goodN_le xs
  have HG := Lib.hid hG
  obtain ⟨code, hcode⟩ : ∃ code : Int, code = if G = n then 0 else 1 := ⟨_, rfl⟩
  rw [← hcode] at HAP
  have HAP := Lib.hid HAP
  clear hsp f3 hrt hG hcode HNW c0 c1 c2 c3 c4 c5 c6 c7 c8 c9 c10 c11 c12 BN
  go_wp2_with fail
  refine HAP.out.mono ?_
  rintro e w4 ⟨V, rfl, hsp, f4⟩
  obtain ⟨ls, hls⟩ : ∃ ls, ls = xs.take G := ⟨_, rfl⟩
  rw [← hls] at hsp
  have HLS := Lib.hid hls
  have hf4 := f4.mono (B' := w.heap.size) (L' := []) BL2.out.size (by simp)
  have BL4 := Lib.hid (BL3.out.trans hf4.below)
  have RL := Lib.hid (by have h := reads_take3 (HK.out.below BL4.out) rfl (G := G) (by rw [← HN.out]; exact hGn); rw [← hls] at h; exact h : Reads w4 w.heap.size 3 A G (cellsR ls))
  have HGL := Lib.hid (show G = ls.length by rw [hls, List.length_take, ← HN.out]; omega)
  have HSP := Lib.hid hsp
  have hfb : (flatR (partsOf r ls) P).length ≤ 1000 := by
    have h := flat_bound (R := partsOf r ls) (m := 200) (fun i => by have h1 : (partsOf r ls i).length ≤ (noR i).length + ls.length := addR_le r noR ls i; simp only [noR, List.length_nil] at h1; have := HGL.out; omega) P
    have := HP.out.2
    omega
  have HFB := Lib.hid hfb
  have HKY := keys_any hsp hfb
  unfold KeysOut at HKY
  obtain ⟨K, hK⟩ : ∃ K, K = keysL (flatR (partsOf r ls) P) := ⟨_, rfl⟩
  obtain ⟨nK, hnK⟩ : ∃ nK, nK = K.length := ⟨_, rfl⟩
  rw [← hK, ← hnK] at HKY
  have HKY := Lib.hid HKY
  have HOFF := Lib.hid (fun wx (h : Fr w4.heap.size [] w4 wx) key => of_any (hsp.keep h) hfb key)
  have HKM := Lib.hid (fun k => (by rw [hK]; exact keys_flat HRT.out ls k : k ∈ K ↔ ofK ls k ≠ []))
  have HSUM := Lib.hid (show sumK ls K = (G : Int) by rw [hK, HGL.out]; exact sum_all HRT.out ls)
  have HNK := Lib.hid hnK
  have hnKb : nK ≤ 1000 := by
    have h1 := sumK_len (ls := ls) (K := K) (fun k hk => (HKM.out k).1 hk)
    have := HSUM.out
    omega
  clear hK hnK hsp f4 hf4 hls hfb HAP
  go_wp2_with fail
  refine HKY.out.mono ?_
  rintro e w5 ⟨A5, c5, rfl, hr5, f5⟩
  have R5 := Lib.hid hr5
  have F5 := Lib.hid f5
  have hG0 : (0 : Int) ≤ (G : Int) := by omega
  clear hr5 f5 HKY
  go_wp2_with fail
  go_loopg [9, 40] nK (fun g s9 s40 wr => ∃ i : Nat, i ≤ nK ∧ g = nK - i ∧ s40 = .int .i64 i ∧ s9 = .int .i64 (sumK ls (K.take i)) ∧ RowKit.Hid (Fr w5.heap.size [] w5 wr))
  case atStart => exact ⟨0, Nat.zero_le _, rfl, rfl, rfl, Lib.hid (Fr.refl _ _ _)⟩
  case round =>
    obtain ⟨i, hi, rfl, rfl, rfl, FR⟩ := hrel
    by_cases hin : i < nK
    · have hii : (i : Int) < (nK : Int) := by omega
      obtain ⟨b5, o5, u, hA5, hb5, hu, q5⟩ := (R5.out.fr FR.out (Nat.le_refl _) (by simp)).one hin
      obtain ⟨key, hkey⟩ : ∃ k, K[i]? = some k := ⟨_, List.getElem?_eq_getElem (by rw [← HNK.out]; exact hin)⟩
      rw [List.getElem?_map, hkey] at hu
      injection hu with hu
      subst hu
      subst hA5
      have hne := (HKM.out key).1 (List.mem_of_getElem? hkey)
      have HST := Lib.hid (sumK_take (ls := ls) hkey)
      have HS1 := sumK_le ls K (i + 1)
      have HS0 := sumK_le ls K i
      rw [HSUM.out] at HS1 HS0
      obtain ⟨s9, hs9⟩ : ∃ s, s = sumK ls (K.take i) := ⟨_, rfl⟩
      rw [← hs9] at HST HS0 ⊢
      have HS9 := Lib.hid hs9
      obtain ⟨m0, hm0⟩ : ∃ m, m = (ofK ls key).length := ⟨_, rfl⟩
      have hm0' : m0 ≠ 0 := by rw [hm0]; exact fun e => hne (List.eq_nil_of_length_eq_zero e)
      rw [← hm0] at HST
      rw [HST.out] at HS1
      have hwm : IntKind.i64.wrap (s9 + (m0 : Int)) = s9 + (m0 : Int) := by rw [IntKind.wrap_i64]; omega
      have hwm2 : wrap64 (s9 + (m0 : Int)) = s9 + (m0 : Int) := by unfold wrap64; omega
      have HM0 := Lib.hid hm0
      have RLr := Lib.hid ((RL.out.fr F5.out (Nat.le_trans BL4.out.size (Nat.le_refl _)) (by simp)).fr FR.out (Nat.le_trans BL4.out.size F5.out.size) (by simp))
      have FRr := Lib.hid (F5.out.trans (FR.out.mono (B' := w4.heap.size) (L' := []) F5.out.size (by simp)))
      have hwr : w.heap.size ≤ wr.heap.size := Nat.le_trans BL4.out.size FRr.out.size
      have H5r := FR.out.size
      clear hs9 hm0 hne hkey HS0 HS1
      go_upto_region 15 with fail
      generalize wr = wa at *
      go_wp2_with fail
      go_loopg [12, 46] G (fun g s12 s46 wq => ∃ (j m : Nat) (A' : Option Addr) (c' : Nat), j ≤ G ∧ g = G - j ∧ s46 = .int .i64 j ∧ s12 = .slice A' m c' ∧ m ≤ j ∧ RowKit.Hid (m = (ofK (ls.take j) key).length) ∧ RowKit.Hid (wq.ownsRow wa.heap.size 64 3 (.slice A' m c') m (cellsR (ofK (ls.take j) key))) ∧ RowKit.Hid (Fr wa.heap.size [] wa wq))
      case atStart => exact ⟨0, 0, none, 0, Nat.zero_le _, rfl, rfl, rfl, Nat.le_refl _, Lib.hid rfl, Lib.hid (World.ownsRow_nil _ _ _ _), Lib.hid (Fr.refl _ _ _)⟩
      case round =>
        obtain ⟨j, m, A', c', hj, rfl, rfl, rfl, hmj, HM, HO, FQ⟩ := hrel
        by_cases hjG : j < G
        · have hji : (j : Int) < (G : Int) := by omega
          obtain ⟨x, hx⟩ : ∃ x, ls[j]? = some x := ⟨_, List.getElem?_eq_getElem (by rw [← HGL.out]; exact hjG)⟩
          have hrl := RLr.out.fr FQ.out hwr (by simp)
          rw [HGL.out] at hrl
          obtain ⟨b2, off2, rfl, hb2, hcx⟩ := reads_rec hrl hx
          have p0 := hcx 0 (by omega)
          have p1 := hcx 1 (by omega)
          have p2 := hcx 2 (by omega)
          simp only [Nat.add_zero, ← Nat.add_assoc] at p0 p1 p2
          have HSN := ofK_snoc hx key
          clear hcx hx hrl
          go_upto_region 18 with fail
          have BX := Lib.hid (Blk.new wr 64 #[.int .i64 (x 0), .int .i64 (x 1), .int .i64 (x 2)])
          have fa := (Fr.refl wr.heap.size [] wr).alloc (Nat.le_refl _) (.cells #[.int .i64 (x 0), .int .i64 (x 1), .int .i64 (x 2)] 64)
          have HOa := Lib.hid (ownsRow_fr HO.out fa (fun q hq => ⟨(HO.out.lt q hq).2, by simp⟩))
          have FQa := Lib.hid (FQ.out.trans (fa.mono (B' := wa.heap.size) (L' := []) FQ.out.size (by simp)))
          clear fa HO FQ p0 p1 p2 hb2
          generalize wr.alloc (.cells #[.int .i64 (x 0), .int .i64 (x 1), .int .i64 (x 2)] 64) = wb at *
          generalize wr.heap.size = gx at *
          have x0 := BX.out.cell 0
          have x1 := BX.out.cell 1
          have x2 := BX.out.cell 2
          simp at x0 x1 x2
          by_cases hk : x 0 = key
          · rw [if_pos hk] at HSN
            have HSN := Lib.hid HSN
            have HRX := Lib.hid (show [.int .i64 key, .int .i64 (x 1), .int .i64 (x 2)] = recC x by rw [← hk]; rfl)
            rw [hk] at x0
            clear hk
            have hown := HOa.out
            have hsz := FQa.out.size
            go_wp2_with (at_builtin; refine wpList_app_lit _ rfl (.tmp 54) (.tmp 56) recTy rfl wa.heap.size (.slice A' m c') m _ rfl hown 1 1 _ rfl rfl (by simp [Value.oneCell']) (by omega) (by omega) hsz ?_; intro A3 c3 w3 hown3 hg3 hat3)
            have F4 := Lib.hid (FQa.out.trans (Fr.of_app hg3 hown hsz))
            have HO3 := Lib.hid hown3
            clear hown3 hg3 hat3 hown
            go_roundg (G - (j + 1))
            case measure => omega
            case rel => exact ⟨j + 1, m + 1, A3, c3, by omega, rfl, by go_num, rfl, by omega, by rw [HSN.out, List.length_append, ← HM.out]; exact Lib.hid rfl, by rw [HSN.out, cellsR_app, show cellsR [x] = [.int .i64 key, .int .i64 (x 1), .int .i64 (x 2)] by rw [HRX.out]; simp [cellsR]]; exact HO3, F4⟩
          · rw [if_neg hk] at HSN
            have HSN := Lib.hid HSN
            have hdk : decide (x 0 = key) = false := decide_eq_false hk
            go_wp2_with fail
            go_roundg (G - (j + 1))
            case measure => omega
            case rel => exact ⟨j + 1, m, A', c', by omega, rfl, by go_num, rfl, by omega, by rw [HSN.out]; exact HM, by rw [HSN.out]; exact HOa, FQa⟩
        · obtain rfl : G = j := by omega
          have htk : ls.take G = ls := List.take_of_length_le (by rw [HGL.out]; exact Nat.le_refl _)
          rw [htk] at HM HO
          obtain rfl : m = m0 := by rw [HM.out, HM0.out]
          have hdm : decide ((m : Int) = 0) = false := decide_eq_false (by omega)
          have hdm2 : decide (m = 0) = false := decide_eq_false hm0'
          have hdm3 : ((m : Int) == 0) = false := by simpa using hm0'
          have FRq := Lib.hid (FRr.out.trans (FQ.out.mono (B' := w4.heap.size) (L' := []) FRr.out.size (by simp)))
          have HOK := HOFF.out wr FRq.out key
          unfold OfOut at HOK
          rw [ofK_all HRT.out] at HOK
          have HOK := Lib.hid HOK
          clear htk hm0'
          go_wp2_with fail
          refine HOK.out.mono ?_
          rintro e wf ⟨Af, cf, kf, hkf, rfl, hrf, ff⟩
          obtain rfl : kf = m := by rw [hkf, HM0.out]
          have HRY := Lib.hid (fun c1 c2 => (recs_yes (c1 := c1) (c2 := c2) HM0.out hrf ((Reads.of_own HO.out).fr ff (Nat.le_refl _) (by simp)) (by omega) : Calls Try.prog 31 #[.slice Af kf c1, .slice A' kf c2] wf fun e w' => e = .returned (.bool true) ∧ Fr wf.heap.size [] wf w'))
          have FF := Lib.hid ((FQ.out.trans (ff.mono (B' := wa.heap.size) (L' := []) FQ.out.size (by simp))))
          clear hkf hrf ff HOK
          go_wp2_with fail
          refine (HRY.out _ _).mono ?_
          rintro e wg ⟨rfl, fg⟩
          have FG := Lib.hid (FR.out.trans ((FF.out.trans (fg.mono (B' := wa.heap.size) (L' := []) FF.out.size (by simp))).mono (B' := w5.heap.size) (L' := []) H5r (by simp)))
          clear fg HRY
          go_wp2_with fail
          go_roundg (nK - (i + 1))
          case measure => omega
          case rel => exact ⟨i + 1, by omega, rfl, by go_num, by rw [HST.out], FG⟩
    · obtain rfl : nK = i := by omega
      have htk : K.take nK = K := List.take_of_length_le (by rw [HNK.out]; exact Nat.le_refl _)
      rw [htk, HSUM.out]
      have FRr := Lib.hid (F5.out.trans (FR.out.mono (B' := w4.heap.size) (L' := []) F5.out.size (by simp)))
      have HOM := HOFF.out wr FRr.out (-1)
      unfold OfOut at HOM
      rw [HLS.out, HG.out, of_minus HRT.out] at HOM
      have HOM := Lib.hid HOM
      have HKN := Lib.hid skeys_nil
      have HON := Lib.hid (sof_nil 1)
      clear htk
      have hGG : decide ((G : Int) = (G : Int)) = true := decide_eq_true rfl
      go_wp2_with fail
      refine HOM.out.mono ?_
      rintro e wf ⟨Af, cf, kf, hkf, rfl, _, ff⟩
      obtain rfl : kf = 0 := hkf
      have FF := Lib.hid (FRr.out.trans (ff.mono (B' := w4.heap.size) (L' := []) FRr.out.size (by simp)))
      clear ff HOM
      go_wp2_with fail
      refine (HKN.out _).mono ?_
      rintro e wg ⟨rfl, fg⟩
      have FG := Lib.hid (FF.out.trans (fg.mono (B' := w4.heap.size) (L' := []) FF.out.size (by simp)))
      clear fg
      go_wp2_with fail
      refine (HON.out _).mono ?_
      rintro e wh ⟨rfl, fh⟩
      have FH := Lib.hid (FG.out.trans (fh.mono (B' := w4.heap.size) (L' := []) FG.out.size (by simp)))
      clear fh
      go_wp2_with fail
      go_ret
      exact ⟨rfl, BL4.out.trans (FH.out.below.mono BL4.out.size)⟩
end Go.Proofs.Ytdkdhhfejbecdaa
