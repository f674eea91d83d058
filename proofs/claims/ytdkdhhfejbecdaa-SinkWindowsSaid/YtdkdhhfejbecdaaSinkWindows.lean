/- The law SinkWindows: the walk. -/
import Derived.Test.YtdkdhhfejbecdaaWinP
import Derived.Test.YtdkdhhfejbecdaaBz
import Derived.Test.YtdkdhhfejbecdaaRadd
import Derived.Test.YtdkdhhfejbecdaaSinkNone
import Derived.Deep.RegionHeld3
namespace Go.Proofs.Ytdkdhhfejbecdaa
open Go.RowKit Go.Fb
set_option maxRecDepth 100000 in
theorem nlast (a b c : Int) (w : World) : Calls Try.prog 17 #[.pointer none, .int .i64 a, .int .i64 b, .int .i64 c] w fun e w' => e = .returned (.tuple #[.agg #[.int .i64 0, .int .i64 0], .bool false]) ∧ Fr w.heap.size [] w w' := by
  have F0 := Lib.hid ((Fr.refl w.heap.size [] w).alloc (Nat.le_refl _) (.cells #[.int .i64 0, .int .i64 0] 32))
  have HO := Lib.hid (nof a b c)
  have B1 := Lib.hid (Blk.new w 32 #[.int .i64 0, .int .i64 0])
  have z0 := B1.out.frozen 0
  have z1 := B1.out.frozen 1
  have q0 := B1.out.cell 0
  have q1 := B1.out.cell 1
  simp at q0 q1
  go_enter Try.func17, Try.ntmps17
  go_wp2_with fail
  refine (HO.out _).mono ?_
  rintro o w' ⟨rfl, rfl⟩
  go_wp2_with fail
  exact bodyPost_ret (results_val_tmp rfl _ _ w.heap.size 32 #[.int .i64 0, .int .i64 0] (0, 0) _ rfl B1.out Try.underlying32 rfl (by kernel_rfl)) rfl ⟨rfl, F0.out⟩
set_option maxRecDepth 100000 in
theorem nwindow (a b c : Int) (w : World) : Calls Try.prog 19 #[.pointer none, .int .i64 a, .int .i64 b, .int .i64 c, .int .i64 5] w fun e w' => e = .returned (.agg #[.int .i64 0, .int .i64 0]) ∧ Fr w.heap.size [] w w' := by
  have F1 := Lib.hid ((Fr.refl w.heap.size [] w).alloc (Nat.le_refl _) (.cells #[.int .i64 0, .int .i64 0] 32))
  have HO := Lib.hid (nof a b c)
  have HA := Lib.hid (fun w' => gadd_any none 0 (World.heap w').size [] w' Reads.none_ (Nat.le_refl _) (by simp))
  have B1 := Lib.hid (Blk.new w 32 #[.int .i64 0, .int .i64 0])
  have z0 := B1.out.frozen 0
  go_enter Try.func19, Try.ntmps19
  go_wp2_with fail
  refine (HO.out _).mono ?_
  rintro o w' ⟨rfl, rfl⟩
  have hwz : (wrap64 0).toNat = 0 := by unfold wrap64; omega
  go_wp2_with fail
  refine (HA.out _).mono ?_
  rintro e w2 ⟨rfl, hf⟩
  have B2 := Lib.hid (B1.out.fr hf B1.out.lt (by simp))
  have F2 := Lib.hid (F1.out.trans (hf.mono (B' := w.heap.size) (L' := []) F1.out.size (by simp)))
  have y0 := B2.out.frozen 0
  have y1 := B2.out.frozen 1
  have p0 := B2.out.cell 0
  have p1 := B2.out.cell 1
  simp at p0 p1
  clear hf HA B1 F1 z0
  go_wp2_with fail
  have B5 := Lib.hid (show Blk _ _ _ #[.int .i64 0, .int .i64 0] from by have := (B2.out.set_ 0 (.int .i64 0)).set_ 1 (.int .i64 0); simpa using this)
  have F5 := Lib.hid ((F2.out.setCell (p := ⟨w.heap.size, 0, none⟩) (.inl (by simp)) (.int .i64 0)).setCell (p := ⟨w.heap.size, 1, none⟩) (.inl (by simp)) (.int .i64 0))
  exact bodyPost_ret (results_cell_row rfl _ _ w.heap.size 32 #[.int .i64 0, .int .i64 0] (0, 0) _ rfl B5.out Try.underlying32 rfl (by kernel_rfl)) rfl ⟨rfl, F5.out⟩
set_option maxRecDepth 100000 in
theorem val_one_eq (a b : Int) (w : World) : (binOp .eql 32 (.agg #[.int .i64 a, .int .i64 b]) (.agg #[.int .i64 a, .int .i64 b])).run Try.prog w = .ok (.bool true) w := by
  have h : (Op.equalIn 10000 32 (.agg #[.int .i64 a, .int .i64 b]) (.agg #[.int .i64 a, .int .i64 b])).run Try.prog w = .ok true w := by
    rw [run_equalIn_struct w 9999 32 _ _ (by kernel_rfl) (by kernel_rfl)]
    simp [Program.fieldsOf, Try.underlying32, Op.eqFields, part, isAgg, run_underlying Try.underlying3, run_equalIn_int w 9998 3 .i64 .i64 _ _ Try.underlying3]
  simp [binOp, Op.equal, Op.maxDepth, h]
set_option maxRecDepth 100000 in
set_option maxHeartbeats 8000000 in
theorem walk_SinkWindows (A : Option Addr) (c : Nat) (l : List (Nat → Int)) (hnc : l.length ≤ c) (hc : c ≤ maxLen) (w : World) (hr : Reads w w.heap.size 5 A l.length (cellsLn l)) (f : Nat → Int) (many : Int) :
    Calls Try.prog 3 #[.slice A l.length c, .agg #[.int .i64 (f 0), .int .i64 (f 1), .int .i64 (f 2)], .int .i64 many] w fun e w' => e = .returned (.bool true) ∧ Below w.heap.size w w' := by
  have hm := Nat.le_trans hnc hc
  unfold maxLen at hm
  have HK := Lib.hid hr
  obtain ⟨a0, ha0⟩ : ∃ a, a = f 0 := ⟨_, rfl⟩
  obtain ⟨a1, ha1⟩ : ∃ a, a = f 1 := ⟨_, rfl⟩
  obtain ⟨a2, ha2⟩ : ∃ a, a = f 2 := ⟨_, rfl⟩
  rw [← ha0, ← ha1, ← ha2]
  obtain ⟨n, hn⟩ : ∃ n, n = l.length := ⟨_, rfl⟩
  rw [← hn] at hm ⊢
  have HN := Lib.hid hn
  clear hr hnc hc ha0 ha1 ha2 hn
  go_enter Try.func3, Try.ntmps3
  go_wp2_with fail
  have hb := Blk.new w 23 #[.int .i64 a0, .int .i64 a1, .int .i64 a2]
  have b0 := (Below.refl _ w).alloc (Nat.le_refl _) (.cells #[.int .i64 a0, .int .i64 a1, .int .i64 a2] 23)
  generalize w.alloc _ = w1 at *
  refine (awake21 _).mono ?_
  rintro e w2 ⟨rfl, b1⟩
  have BA := Lib.hid (hb.below b1 hb.lt)
  have BL2 := Lib.hid (b0.trans (b1.mono b0.size))
  clear hb b0 b1
  by_cases h60 : n ≤ 60
  case neg =>
    have hd60 : decide (60 < (n : Int)) = true := decide_eq_true (by omega)
    go_wp2_with fail
    go_ret
    exact ⟨rfl, BL2.out⟩
  have hd60 : decide (60 < (n : Int)) = false := decide_eq_false (by omega)
  have HN2 := Lib.hid (bnew_any w2)
  go_wp2_with fail
  refine HN2.out.mono ?_
  rintro e w3 ⟨gb, gm, rfl, B3, f3⟩
  have BA3 := Lib.hid (BA.out.fr f3 BA.out.lt (by simp))
  have BL3 := Lib.hid (BL2.out.trans (f3.below.mono BL2.out.size))
  have HK3 := Lib.hid (HK.out.below BL3.out)
  have hw3 := BL3.out.size
  have h23 := f3.size
  have hlt2 := BA.out.lt
  have BK3 := Lib.hid B3
  clear f3 HN2 B3 HK BA
  have hl60 : l.length ≤ 60 := by rw [← HN.out]; exact h60
  cases hal : l.all lineB
  case' false =>
    have HCM := bcommit_arg w3 BK3.out 3 A c w.heap.size l (by exact HK3.out) hw3 (by omega) (by decide) hal
    rw [← HN.out] at HCM
    have HCM := Lib.hid HCM
    clear hal
    go_wp2_with fail
    refine HCM.out.mono ?_
    rintro o wc ⟨rfl, fc⟩
    have BKc := BK3.out.keep fc
    have BAc := Lib.hid (BA3.out.fr fc BA3.out.lt (by simp))
    have BLc := Lib.hid (BL3.out.trans (fc.below.mono BL3.out.size))
    have key : ∃ (l' : List (Nat → Int)) (E' : List (Int × Nat)) (ep' : Int) (V' : Value), l'.length ≤ 60 ∧ RowKit.Hid (Bk w2.heap.size gb gm l' E' ep' V' wc) ∧ RowKit.Hid (∀ wx, Fr wc.heap.size [] wc wx → Calls Try.prog 16 #[.slice none 0 0, .int .i64 a0, .int .i64 a1, .int .i64 a2] wx (OnlyOut l' (a0, a1, a2) wx)) :=
      ⟨[], _, _, _, by simp, Lib.hid BKc, Lib.hid (fun wx _ => ronly_any none 0 wx.heap.size [] a0 a1 a2 wx Reads.none_ (Nat.le_refl _) (by simp))⟩
    clear fc HCM BKc BA3 BL3 BK3 HK3 hw3 h23 hlt2 HN hm hl60
    go_upto_region 8 with fail
  case' true =>
    have HCM := bcommit_ok w3 BK3.out h23 3 A c w.heap.size l (by exact HK3.out) hw3 (by simp; omega) (by decide) hal (by simp)
    rw [← HN.out] at HCM
    have HCM := Lib.hid HCM
    clear hal
    go_wp2_with fail
    refine HCM.out.mono ?_
    rintro o wc ⟨V1, rfl, bkc, fc, hat⟩
    have hnb : ∀ q ∈ gb :: gm :: (Value.slice none 0 0).ownBlock.toList, w2.heap.size ≤ q := by
      have := BK3.out.low
      intro q hq
      simp only [List.mem_cons] at hq
      rcases hq with rfl | rfl | hq
      · omega
      · omega
      · simp [Value.ownBlock] at hq
    have hs2 := BL2.out.size
    have BAc := Lib.hid (BA3.out.fr fc BA3.out.lt (by intro hq; have h1 := hnb _ hq; omega))
    have FBC := fc.mono (B' := w.heap.size) (L' := []) BL3.out.size (by intro q hq hlt; have := hnb q hq; omega)
    have BLc := Lib.hid (BL3.out.trans FBC.below)
    have key : ∃ (l' : List (Nat → Int)) (E' : List (Int × Nat)) (ep' : Int) (V' : Value), l'.length ≤ 60 ∧ RowKit.Hid (Bk w2.heap.size gb gm l' E' ep' V' wc) ∧ RowKit.Hid (∀ wx, Fr wc.heap.size [] wc wx → Calls Try.prog 16 #[.slice A n c, .int .i64 a0, .int .i64 a1, .int .i64 a2] wx (OnlyOut l' (a0, a1, a2) wx)) :=
      ⟨l, _, _, _, hl60, Lib.hid bkc, Lib.hid (fun wx hx => by rw [HN.out]; exact ronly_any A c w.heap.size l a0 a1 a2 wx (HK3.out.below (FBC.below.trans (hx.below.mono BLc.out.size))) (BLc.out.trans (hx.below.mono BLc.out.size)).size (by omega))⟩
    clear fc HCM bkc BA3 BL3 BK3 HK3 hw3 h23 HN hm hl60 hnb hat FBC hlt2
    go_upto_region 8 with fail
  all_goals
    obtain ⟨l', E', ep', V', hl6, BK, HON⟩ := key
    obtain ⟨v, hv⟩ : ∃ v, v = onlyV l' (a0, a1, a2) := ⟨_, rfl⟩
    obtain ⟨nv, hnv⟩ : ∃ nv, nv = v.length := ⟨_, rfl⟩
    have hvn : nv ≤ 60 := by rw [hnv, hv]; exact Nat.le_trans (onlyV_le l' (a0, a1, a2)) hl6
    have c0 := BAc.out.cell 0
    have c1 := BAc.out.cell 1
    have c2 := BAc.out.cell 2
    simp at c0 c1 c2
    have HON1 := HON.out wc (Fr.refl _ _ _)
    unfold OnlyOut at HON1
    rw [← hv, ← hnv] at HON1
    have HON1 := Lib.hid HON1
    have HV := Lib.hid hv
    have HNV := Lib.hid hnv
    have hlm : l'.length ≤ 1000000 := by omega
    have HL6 := Lib.hid hlm
    clear hv hnv HON hl6 hlm
    go_wp2_with fail
    refine HON1.out.mono ?_
    rintro e wv ⟨Av, cv, rfl, hown, fv⟩
    have RV := Lib.hid (Reads.of_own hown)
    have FX := Lib.hid fv
    have BAv := Lib.hid (BAc.out.fr fv BAc.out.lt (by simp))
    have HLA := last_any wv (BK.out.keep fv) HL6.out a0 a1 a2
    rw [← HV.out] at HLA
    have HLA := Lib.hid HLA
    clear fv hown HON1 BAc c0 c1 c2
    have c0 := BAv.out.cell 0
    have c1 := BAv.out.cell 1
    have c2 := BAv.out.cell 2
    simp at c0 c1 c2
    go_wp2_with fail
    refine HLA.out.mono ?_
    rintro e wl ⟨⟨lv, hlv, rfl⟩, fl⟩
    have FL := Lib.hid (FX.out.trans (fl.mono (B' := wc.heap.size) (L' := []) FX.out.size (by simp)))
    have RVl := Lib.hid ((RV.out.fr fl (Nat.le_refl _) (by simp)).more fl.size)
    have BAl := Lib.hid (BAv.out.fr fl BAv.out.lt (by simp))
    have HLV := Lib.hid hlv
    clear fl HLA FX RV BAv hlv c0 c1 c2
    obtain ⟨x1, hx1⟩ : ∃ a, a = (lv.getD (0, 0)).1 := ⟨_, rfl⟩
    obtain ⟨x2, hx2⟩ : ∃ a, a = (lv.getD (0, 0)).2 := ⟨_, rfl⟩
    obtain ⟨ob, hob⟩ : ∃ a, a = lv.isSome := ⟨_, rfl⟩
    rw [← hx1, ← hx2, ← hob]
    have HX1 := Lib.hid hx1
    have HX2 := Lib.hid hx2
    have HOB := Lib.hid hob
    clear hx1 hx2 hob
    have c0 := BAl.out.cell 0
    have c1 := BAl.out.cell 1
    have c2 := BAl.out.cell 2
    simp at c0 c1 c2
    go_upto_region 10 with fail
    clear c0 c1 c2
    have BX0 := Blk.new wl 32 #[.int .i64 x1, .int .i64 x2]
    have F10 := (Fr.refl wl.heap.size [] wl).alloc (Nat.le_refl _) (.cells #[.int .i64 x1, .int .i64 x2] 32)
    obtain ⟨gx, hgx⟩ : ∃ g, g = wl.heap.size := ⟨_, rfl⟩
    rw [← hgx] at BX0 ⊢
    have hg1 : gx ≤ wl.heap.size := by omega
    have hg1' : wl.heap.size ≤ gx := by omega
    clear hgx
    have hl10 := F10.size
    generalize wl.alloc (.cells #[.int .i64 x1, .int .i64 x2] 32) = wm at *
    have hxm := BX0.lt
    have BX1 := BX0.alloc (.cells #[.int .i64 0, .int .i64 0] 32)
    have BS1 := Blk.new wm 32 #[.int .i64 0, .int .i64 0]
    have F11 := F10.alloc hl10 (.cells #[.int .i64 0, .int .i64 0] 32)
    go_upto_region 11 with fail
    obtain ⟨gs, hgs⟩ : ∃ g, g = wm.heap.size := ⟨_, rfl⟩
    rw [← hgs] at BS1 ⊢
    have hl11 := F11.size
    have hxs : gx ≠ gs := by omega
    have hls : wl.heap.size ≤ gs := by omega
    have hsz : (wm.alloc (.cells #[.int .i64 0, .int .i64 0] 32)).heap.size = gs + 1 := by simp [hgs]
    clear hgs
    generalize wm.alloc (.cells #[.int .i64 0, .int .i64 0] 32) = wn at *
    have BX := Lib.hid (BX1.alloc (.cells #[.int .i64 0, .int .i64 0] 32))
    have BS := Lib.hid (BS1.alloc (.cells #[.int .i64 0, .int .i64 0] 32))
    have BT := Lib.hid (Blk.new wn 32 #[.int .i64 0, .int .i64 0])
    have FW := Lib.hid (F11.alloc hl11 (.cells #[.int .i64 0, .int .i64 0] 32))
    rw [hsz] at BT
    obtain ⟨ga, hga⟩ : ∃ g, g = gs + 1 := ⟨_, rfl⟩
    rw [← hga] at BT ⊢
    have hxa : gx ≠ ga := by omega
    have hsa : gs ≠ ga := by omega
    have hla : wl.heap.size ≤ ga := by omega
    clear hga hsz BX0 BX1 BS1 F10 F11 hl10 hl11 hxm
    generalize wn.alloc (.cells #[.int .i64 0, .int .i64 0] 32) = w0 at *
    have hnv0 : (nv : Int) ≤ 60 := by omega
    go_wp2_with fail
    go_loopg [13, 14, 53] nv (fun g s13 s14 s53 wr => ∃ i : Nat, i ≤ nv ∧ g = nv - i ∧ s53 = .int .i64 i ∧ (s13 = undef ∨ ∃ a, s13 = .int .i64 a) ∧ (s14 = undef ∨ ∃ a, s14 = .pointer a) ∧ RowKit.Hid (Blk wr gx 32 #[.int .i64 x1, .int .i64 x2]) ∧ RowKit.Hid (Blk wr gs 32 #[.int .i64 (winAt v many i).1, .int .i64 (winAt v many i).2]) ∧ RowKit.Hid (Blk wr ga 32 #[.int .i64 (sumV (v.take i)).1, .int .i64 (sumV (v.take i)).2]) ∧ RowKit.Hid (Fr wl.heap.size [] wl wr))
    case atStart => exact ⟨0, Nat.zero_le _, rfl, rfl, .inl rfl, .inl rfl, BX, by rw [winAt_zero]; exact BS, BT, FW⟩
    case round =>
      clear BX BS BT FW
      obtain ⟨i, hi, rfl, rfl, hs13, hs14, BX, BS, BT, FW⟩ := hrel
      by_cases hin : i < nv
      · have hii : (i : Int) < (nv : Int) := by omega
        obtain ⟨y, hy⟩ : ∃ y, v[i]? = some y := ⟨_, List.getElem?_eq_getElem (by rw [← HNV.out]; exact hin)⟩
        have hrv := RVl.out.fr FW.out (Nat.le_refl _) (by simp)
        rw [HNV.out] at hrv
        obtain ⟨b, off, rfl, hb, p0, p1⟩ := reads_val (hrv.more (B' := wr.heap.size) FW.out.size) hy
        have HTK := Lib.hid (sumV_take hy)
        have HY := Lib.hid hy
        obtain ⟨s, hs⟩ : ∃ s, s = winAt v many i := ⟨_, rfl⟩
        obtain ⟨t, ht⟩ : ∃ t, t = sumV (v.take i) := ⟨_, rfl⟩
        rw [← hs] at BS
        rw [← ht] at BT HTK
        have HS := Lib.hid hs
        clear hrv hy hs ht
        go_upto_region 14 with fail
        have BY := Lib.hid (Blk.new wr 32 #[.int .i64 y.1, .int .i64 y.2])
        have BXa := Lib.hid (BX.out.alloc (.cells #[.int .i64 y.1, .int .i64 y.2] 32))
        have BSa := Lib.hid (BS.out.alloc (.cells #[.int .i64 y.1, .int .i64 y.2] 32))
        have BTa := Lib.hid (BT.out.alloc (.cells #[.int .i64 y.1, .int .i64 y.2] 32))
        have FWa := Lib.hid (FW.out.alloc FW.out.size (.cells #[.int .i64 y.1, .int .i64 y.2] 32))
        have hys : gs ≠ wr.heap.size := by have := BS.out.lt; omega
        have hya : ga ≠ wr.heap.size := by have := BT.out.lt; omega
        clear BX BS BT FW p0 p1 hb
        generalize wr.alloc (.cells #[.int .i64 y.1, .int .i64 y.2] 32) = wa at *
        generalize wr.heap.size = gy at *
        have y0 := BY.out.cell 0
        have y1 := BY.out.cell 1
        have t0 := BTa.out.cell 0
        have t1 := BTa.out.cell 1
        simp at y0 y1 t0 t1
        have HRA := refadd_any t y
        generalize addV t y = r at HRA HTK
        have HRA := Lib.hid HRA
        go_wp2_with fail
        refine (HRA.out _).mono ?_
        rintro e wb ⟨rfl, fb⟩
        have BYb := Lib.hid (BY.out.fr fb BY.out.lt (by simp))
        have BXb := Lib.hid (BXa.out.fr fb BXa.out.lt (by simp))
        have BSb := Lib.hid (BSa.out.fr fb BSa.out.lt (by simp))
        have BTb := Lib.hid (BTa.out.fr fb BTa.out.lt (by simp))
        have FWb := Lib.hid (FWa.out.trans (fb.mono (B' := wl.heap.size) (L' := []) FWa.out.size (by simp)))
        clear fb HRA BY BXa BSa BTa FWa y0 y1 t0 t1
        have z0 := BTb.out.frozen 0
        have z1 := BTb.out.frozen 1
        have t0 := BTb.out.cell 0
        have t1 := BTb.out.cell 1
        simp at t0 t1
        go_upto_region 15 with fail
        clear z0 z1 t0 t1
        have BTc := Lib.hid (show Blk _ _ _ #[.int .i64 r.1, .int .i64 r.2] from by have := (BTb.out.set_ 0 (.int .i64 r.1)).set_ 1 (.int .i64 r.2); simpa using this)
        have BSc := Lib.hid ((BSb.out.far (p := ⟨ga, 0, none⟩) hsa (.int .i64 r.1)).far (p := ⟨ga, 1, none⟩) hsa (.int .i64 r.2))
        have BXc := Lib.hid ((BXb.out.far (p := ⟨ga, 0, none⟩) hxa (.int .i64 r.1)).far (p := ⟨ga, 1, none⟩) hxa (.int .i64 r.2))
        have BYc := Lib.hid ((BYb.out.far (p := ⟨ga, 0, none⟩) hya.symm (.int .i64 r.1)).far (p := ⟨ga, 1, none⟩) hya.symm (.int .i64 r.2))
        have FWc := Lib.hid ((FWb.out.setCell (p := ⟨ga, 0, none⟩) (.inl hla) (.int .i64 r.1)).setCell (p := ⟨ga, 1, none⟩) (.inl hla) (.int .i64 r.2))
        clear BTb BSb BXb BYb FWb
        generalize (wb.setCell ⟨ga, 0, none⟩ (.int .i64 r.1)).setCell ⟨ga, 1, none⟩ (.int .i64 r.2) = wd at *
        have hw1 : IntKind.i64.wrap ((nv : Int) - (i : Int)) = (nv : Int) - (i : Int) := by rw [IntKind.wrap_i64]; omega
        have hw2 : wrap64 ((nv : Int) - (i : Int)) = (nv : Int) - (i : Int) := by unfold wrap64; omega
        by_cases hm0 : 0 < many
        · by_cases hmm : (nv : Int) - (i : Int) ≤ many
          · have HWY := winAt_yes HY.out hm0 (by rw [← HNV.out]; exact hmm)
            rw [← HS.out] at HWY
            have y0 := BYc.out.cell 0
            have y1 := BYc.out.cell 1
            have t0 := BSc.out.cell 0
            have t1 := BSc.out.cell 1
            simp at y0 y1 t0 t1
            have HRB := refadd_any s y
            generalize addV s y = q at HRB HWY
            have HRB := Lib.hid HRB
            have HWY := Lib.hid HWY
            go_wp2_with fail
            refine (HRB.out _).mono ?_
            rintro e we ⟨rfl, fe⟩
            have BXe := Lib.hid (BXc.out.fr fe BXc.out.lt (by simp))
            have BSe := Lib.hid (BSc.out.fr fe BSc.out.lt (by simp))
            have BTe := Lib.hid (BTc.out.fr fe BTc.out.lt (by simp))
            have FWe := Lib.hid (FWc.out.trans (fe.mono (B' := wl.heap.size) (L' := []) FWc.out.size (by simp)))
            clear fe HRB BXc BSc BTc BYc FWc y0 y1 t0 t1
            have z0 := BSe.out.frozen 0
            have z1 := BSe.out.frozen 1
            have t0 := BSe.out.cell 0
            have t1 := BSe.out.cell 1
            simp at t0 t1
            go_wp2_with fail
            have BSc := Lib.hid (show Blk _ _ _ #[.int .i64 q.1, .int .i64 q.2] from by have := (BSe.out.set_ 0 (.int .i64 q.1)).set_ 1 (.int .i64 q.2); simpa using this)
            have BTc := Lib.hid ((BTe.out.far (p := ⟨gs, 0, none⟩) hsa.symm (.int .i64 q.1)).far (p := ⟨gs, 1, none⟩) hsa.symm (.int .i64 q.2))
            have BXc := Lib.hid ((BXe.out.far (p := ⟨gs, 0, none⟩) hxs (.int .i64 q.1)).far (p := ⟨gs, 1, none⟩) hxs (.int .i64 q.2))
            have FWc := Lib.hid ((FWe.out.setCell (p := ⟨gs, 0, none⟩) (.inl hls) (.int .i64 q.1)).setCell (p := ⟨gs, 1, none⟩) (.inl hls) (.int .i64 q.2))
            go_roundg (nv - (i + 1))
            case measure => omega
            case rel => exact ⟨i + 1, by omega, rfl, by go_num, .inr ⟨_, rfl⟩, .inr ⟨_, rfl⟩, BXc, by rw [HWY.out]; exact BSc, by rw [HTK.out]; exact BTc, FWc⟩
          · have HWY := winAt_no (v := v) (many := many) (k := i) (by rw [← HNV.out]; exact hin) (.inr (by rw [← HNV.out]; exact hmm))
            rw [← HS.out] at HWY
            have HWY := Lib.hid HWY
            go_wp2_with fail
            go_roundg (nv - (i + 1))
            case measure => omega
            case rel => exact ⟨i + 1, by omega, rfl, by go_num, .inr ⟨_, rfl⟩, .inr ⟨_, rfl⟩, BXc, by rw [HWY.out]; exact BSc, by rw [HTK.out]; exact BTc, FWc⟩
        · have HWY := winAt_no (v := v) (many := many) (k := i) (by rw [← HNV.out]; exact hin) (.inl hm0)
          rw [← HS.out] at HWY
          have HWY := Lib.hid HWY
          go_wp2_with fail
          go_roundg (nv - (i + 1))
          case measure => omega
          case rel => exact ⟨i + 1, by omega, rfl, by go_num, .inr ⟨_, rfl⟩, .inr ⟨_, rfl⟩, BXc, by rw [HWY.out]; exact BSc, by rw [HTK.out]; exact BTc, FWc⟩
      · obtain rfl : nv = i := by omega
        have hww : winAt v many nv = winV v many := by rw [HNV.out]; exact winAt_end v many
        have htt : v.take nv = v := List.take_of_length_le (by rw [HNV.out]; exact Nat.le_refl _)
        rw [hww] at BS
        rw [htt] at BT
        have FC := Lib.hid (FL.out.trans (FW.out.mono (B' := wc.heap.size) (L' := []) FL.out.size (by simp)))
        have hlr := FW.out.size
        have BLr := Lib.hid (BLc.out.trans (FC.out.below.mono BLc.out.size))
        have RVr := Lib.hid (RVl.out.fr FW.out (Nat.le_refl _) (by simp))
        have BAr := Lib.hid (BAl.out.fr FW.out BAl.out.lt (by simp))
        have HTT := Lib.hid (fun wx (h : Fr wr.heap.size [] wr wx) => totals_any wx (BK.out.keep (FC.out.trans (h.mono (B' := wc.heap.size) (L' := []) FC.out.size (by simp)))) HL6.out)
        have HWN := fun wx (h : Fr wr.heap.size [] wr wx) => window_any wx (BK.out.keep (FC.out.trans (h.mono (B' := wc.heap.size) (L' := []) FC.out.size (by simp)))) HL6.out a0 a1 a2 many
        rw [← HV.out] at HWN
        generalize winV v many = q at HWN BS
        have HWN := Lib.hid HWN
        have hnq : ∀ w, (binOp .neq 32 (.agg #[.int .i64 q.1, .int .i64 q.2]) (.agg #[.int .i64 q.1, .int .i64 q.2])).run Try.prog w = .ok (.bool false) w := fun w => val_one_neq _ _ w
        obtain ⟨t, ht⟩ : ∃ t, t = sumV v := ⟨_, rfl⟩
        rw [← ht] at BT
        have HT := Lib.hid ht
        clear ht hww htt FW RVl BAl
        have hxe : (nv = 0 ∧ ob = false ∧ x1 = 0 ∧ x2 = 0) ∨ (∃ m x, nv = m + 1 ∧ v[m]? = some x ∧ ob = true ∧ x1 = x.1 ∧ x2 = x.2) := by
          have h1 := HLV.out
          rcases Nat.eq_zero_or_pos nv with h0 | h0
          · left
            have : v = [] := List.eq_nil_of_length_eq_zero (by rw [← HNV.out]; exact h0)
            rw [this] at h1
            simp at h1
            refine ⟨h0, ?_, ?_, ?_⟩
            · rw [HOB.out, ← h1]; rfl
            · rw [HX1.out, ← h1]; rfl
            · rw [HX2.out, ← h1]; rfl
          · right
            obtain ⟨m, hm⟩ : ∃ m, nv = m + 1 := ⟨nv - 1, by omega⟩
            obtain ⟨x, hx⟩ : ∃ x, v[m]? = some x := ⟨_, List.getElem?_eq_getElem (by rw [← HNV.out]; omega)⟩
            have h2 : some x = lv := by rw [← h1, List.getLast?_eq_getElem?, ← HNV.out, hm]; exact hx.symm
            refine ⟨m, x, hm, hx, ?_, ?_, ?_⟩
            · rw [HOB.out, ← h2]; rfl
            · rw [HX1.out, ← h2]; rfl
            · rw [HX2.out, ← h2]; rfl
        clear HLV HOB HX1 HX2
        go_upto_region 18 with fail
        go_cut [114] (fun s114 wx => s114 = .bool false ∧ RowKit.Hid (Fr wr.heap.size [] wr wx))
        case first =>
          rcases hxe with ⟨rfl, rfl, rfl, rfl⟩ | ⟨m, x, rfl, hx, rfl, rfl, rfl⟩
          case inl =>
            have hnz : ∀ w, (binOp .neq 32 (.agg #[.int .i64 0, .int .i64 0]) (.agg #[.int .i64 0, .int .i64 0])).run Try.prog w = .ok (.bool false) w := fun w => val_one_neq _ _ w
            have SF := Lib.hid (fun wx (h : Fr wr.heap.size [] wr wx) => (⟨(BX.out.fr h BX.out.lt (by simp)).cell 0, (BX.out.fr h BX.out.lt (by simp)).cell 1, (BS.out.fr h BS.out.lt (by simp)).cell 0, (BS.out.fr h BS.out.lt (by simp)).cell 1, (BAr.out.fr h BAr.out.lt (by simp)).cell 0, (BAr.out.fr h BAr.out.lt (by simp)).cell 1, (BAr.out.fr h BAr.out.lt (by simp)).cell 2⟩ : wx.cell? ⟨gx, 0, none⟩ = some (.int .i64 0) ∧ wx.cell? ⟨gx, 1, none⟩ = some (.int .i64 0) ∧ wx.cell? ⟨gs, 0, none⟩ = some (.int .i64 q.1) ∧ wx.cell? ⟨gs, 1, none⟩ = some (.int .i64 q.2) ∧ wx.cell? ⟨w.heap.size, 0, none⟩ = some (.int .i64 a0) ∧ wx.cell? ⟨w.heap.size, 1, none⟩ = some (.int .i64 a1) ∧ wx.cell? ⟨w.heap.size, 2, none⟩ = some (.int .i64 a2)))
            have INV := Lib.hid ((Fr.refl wr.heap.size [] wr).drew)
            refine wp_region_held_drew (S := fun wx => wx.cell? ⟨gx, 0, none⟩ = some (.int .i64 0) ∧ wx.cell? ⟨gx, 1, none⟩ = some (.int .i64 0) ∧ wx.cell? ⟨gs, 0, none⟩ = some (.int .i64 q.1) ∧ wx.cell? ⟨gs, 1, none⟩ = some (.int .i64 q.2) ∧ wx.cell? ⟨w.heap.size, 0, none⟩ = some (.int .i64 a0) ∧ wx.cell? ⟨w.heap.size, 1, none⟩ = some (.int .i64 a1) ∧ wx.cell? ⟨w.heap.size, 2, none⟩ = some (.int .i64 a2)) (by kernel_rfl) (SF.out _ INV.out) (fun hHeld => ?_)
            refine wpAnyH_take (i := 0) (oi := { dst := some 75, op := Op.move (Operand.tmp 10), type := 4, pos := "law.go:180", after := #[], guard := none }) (v := ?_) rfl (by kernel_rfl) (by kernel_rfl) (by kernel_rfl) (fun _ _ _ h => h) (Or.inl ⟨by rfl, ?_⟩) hHeld ?_
            rotate_left
            · intro w hSw; (try dsimp only at hSw); go_simp; (try with_reducible rfl)
            simp only [Act.put, List.setIfInBounds_toArray, List.set_cons_zero, List.set_cons_succ]
            refine wpAnyH_take (i := 1) (oi := { dst := some 76, op := Op.move (Operand.tmp 8), type := 29, pos := "law.go:180", after := #[], guard := none }) (v := ?_) rfl (by kernel_rfl) (by kernel_rfl) (by kernel_rfl) (fun _ _ _ h => h) (Or.inl ⟨by rfl, ?_⟩) hHeld ?_
            rotate_left
            · intro w hSw; (try dsimp only at hSw); go_simp; (try with_reducible rfl)
            simp only [Act.put, List.setIfInBounds_toArray, List.set_cons_zero, List.set_cons_succ]
            refine wpAnyH_take (i := 2) (oi := { dst := some 77, op := Op.call { callee := Callee.builtin Builtin.len, args := #[Operand.tmp 76], argTypes := #[29] }, type := 3, pos := "law.go:180", after := #[{ on := 1, ground := Ground.data }], guard := none }) (v := ?_) rfl (by kernel_rfl) (by kernel_rfl) (by kernel_rfl) (fun _ _ _ h => h) (Or.inl ⟨by rfl, ?_⟩) hHeld ?_
            rotate_left
            · intro w hSw; (try dsimp only at hSw); go_simp; (try with_reducible rfl)
            simp only [Act.put, List.setIfInBounds_toArray, List.set_cons_zero, List.set_cons_succ]
            refine wpAnyH_take (i := 3) (oi := { dst := some 78, op := Op.binOp BinOp.gtr 3 (Operand.tmp 77) (Operand.const (Value.int IntKind.i64 0)) 3, type := 4, pos := "law.go:180", after := #[{ on := 2, ground := Ground.data }], guard := none }) (v := ?_) rfl (by kernel_rfl) (by kernel_rfl) (by kernel_rfl) (fun _ _ _ h => h) (Or.inl ⟨by rfl, ?_⟩) hHeld ?_
            rotate_left
            · intro w hSw; (try dsimp only at hSw); go_simp; (try with_reducible rfl)
            simp only [Act.put, List.setIfInBounds_toArray, List.set_cons_zero, List.set_cons_succ]
            refine wpAnyH_take (i := 4) (oi := { dst := some 79, op := Op.binOp BinOp.neq 4 (Operand.tmp 75) (Operand.tmp 78) 4, type := 4, pos := "law.go:180", after := #[{ on := 0, ground := Ground.data }, { on := 3, ground := Ground.data }], guard := none }) (v := ?_) rfl (by kernel_rfl) (by kernel_rfl) (by kernel_rfl) (fun _ _ _ h => h) (Or.inl ⟨by rfl, ?_⟩) hHeld ?_
            rotate_left
            · intro w hSw; (try dsimp only at hSw); go_simp; (try with_reducible rfl)
            simp only [Act.put, List.setIfInBounds_toArray, List.set_cons_zero, List.set_cons_succ]
            refine wpAnyH_take (i := 5) (oi := { dst := some 80, op := Op.move (Operand.tmp 79), type := 4, pos := "law.go:180", after := #[{ on := 4, ground := Ground.data }], guard := none }) (v := ?_) rfl (by kernel_rfl) (by kernel_rfl) (by kernel_rfl) (fun _ _ _ h => h) (Or.inl ⟨by rfl, ?_⟩) hHeld ?_
            rotate_left
            · intro w hSw; (try dsimp only at hSw); go_simp; (try with_reducible rfl)
            simp only [Act.put, List.setIfInBounds_toArray, List.set_cons_zero, List.set_cons_succ]
            refine wpAnyH_take (i := 6) (oi := { dst := some 81, op := Op.move (Operand.tmp 10), type := 4, pos := "law.go:180", after := #[{ on := 5, ground := Ground.guard }], guard := some (5, false) }) (v := ?_) rfl (by kernel_rfl) (by kernel_rfl) (by kernel_rfl) (fun _ _ _ h => h) (Or.inl ⟨by rfl, ?_⟩) hHeld ?_
            rotate_left
            · intro w hSw; (try dsimp only at hSw); go_simp; (try with_reducible rfl)
            simp only [Act.put, List.setIfInBounds_toArray, List.set_cons_zero, List.set_cons_succ]
            refine wpAnyH_take (i := 7) (oi := { dst := some 82, op := Op.move (Operand.tmp 81), type := 4, pos := "law.go:180", after := #[{ on := 6, ground := Ground.data }, { on := 5, ground := Ground.chain }, { on := 5, ground := Ground.guard }], guard := some (5, false) }) (v := ?_) rfl (by kernel_rfl) (by kernel_rfl) (by kernel_rfl) (fun _ _ _ h => h) (Or.inl ⟨by rfl, ?_⟩) hHeld ?_
            rotate_left
            · intro w hSw; (try dsimp only at hSw); go_simp; (try with_reducible rfl)
            simp only [Act.put, List.setIfInBounds_toArray, List.set_cons_zero, List.set_cons_succ]
            refine wpAnyH_take (i := 8) (oi := { dst := some 83, op := Op.load 32 (Operand.tmp 9), type := 32, pos := "law.go:180", after := #[{ on := 7, ground := Ground.guard }], guard := some (7, true) }) (v := undef) rfl (by kernel_rfl) (by kernel_rfl) (by kernel_rfl) (fun _ _ _ h => h) (Or.inr ⟨by rfl, rfl⟩) hHeld ?_
            simp only [Act.put, List.setIfInBounds_toArray, List.set_cons_zero, List.set_cons_succ]
            refine wpAnyH_take (i := 9) (oi := { dst := some 84, op := Op.move (Operand.tmp 8), type := 29, pos := "law.go:180", after := #[{ on := 7, ground := Ground.guard }], guard := some (7, true) }) (v := undef) rfl (by kernel_rfl) (by kernel_rfl) (by kernel_rfl) (fun _ _ _ h => h) (Or.inr ⟨by rfl, rfl⟩) hHeld ?_
            simp only [Act.put, List.setIfInBounds_toArray, List.set_cons_zero, List.set_cons_succ]
            refine wpAnyH_take (i := 10) (oi := { dst := some 85, op := Op.move (Operand.tmp 8), type := 29, pos := "law.go:180", after := #[{ on := 7, ground := Ground.guard }], guard := some (7, true) }) (v := undef) rfl (by kernel_rfl) (by kernel_rfl) (by kernel_rfl) (fun _ _ _ h => h) (Or.inr ⟨by rfl, rfl⟩) hHeld ?_
            simp only [Act.put, List.setIfInBounds_toArray, List.set_cons_zero, List.set_cons_succ]
            refine wpAnyH_take (i := 11) (oi := { dst := some 86, op := Op.call { callee := Callee.builtin Builtin.len, args := #[Operand.tmp 85], argTypes := #[29] }, type := 3, pos := "law.go:180", after := #[{ on := 10, ground := Ground.data }, { on := 7, ground := Ground.guard }], guard := some (7, true) }) (v := undef) rfl (by kernel_rfl) (by kernel_rfl) (by kernel_rfl) (fun _ _ _ h => h) (Or.inr ⟨by rfl, rfl⟩) hHeld ?_
            simp only [Act.put, List.setIfInBounds_toArray, List.set_cons_zero, List.set_cons_succ]
            refine wpAnyH_take (i := 12) (oi := { dst := some 87, op := Op.binOp BinOp.sub 3 (Operand.tmp 86) (Operand.const (Value.int IntKind.i64 1)) 3, type := 3, pos := "law.go:180", after := #[{ on := 11, ground := Ground.data }, { on := 7, ground := Ground.guard }], guard := some (7, true) }) (v := undef) rfl (by kernel_rfl) (by kernel_rfl) (by kernel_rfl) (fun _ _ _ h => h) (Or.inr ⟨by rfl, rfl⟩) hHeld ?_
            simp only [Act.put, List.setIfInBounds_toArray, List.set_cons_zero, List.set_cons_succ]
            refine wpAnyH_take (i := 13) (oi := { dst := some 88, op := Op.indexAddr 29 (Operand.tmp 84) (Operand.tmp 87), type := 0, pos := "law.go:180", after := #[{ on := 9, ground := Ground.data }, { on := 12, ground := Ground.data }, { on := 7, ground := Ground.guard }], guard := some (7, true) }) (v := undef) rfl (by kernel_rfl) (by kernel_rfl) (by kernel_rfl) (fun _ _ _ h => h) (Or.inr ⟨by rfl, rfl⟩) hHeld ?_
            simp only [Act.put, List.setIfInBounds_toArray, List.set_cons_zero, List.set_cons_succ]
            refine wpAnyH_take (i := 14) (oi := { dst := some 89, op := Op.load 32 (Operand.tmp 88), type := 32, pos := "law.go:180", after := #[{ on := 13, ground := Ground.data }, { on := 7, ground := Ground.guard }], guard := some (7, true) }) (v := undef) rfl (by kernel_rfl) (by kernel_rfl) (by kernel_rfl) (fun _ _ _ h => h) (Or.inr ⟨by rfl, rfl⟩) hHeld ?_
            simp only [Act.put, List.setIfInBounds_toArray, List.set_cons_zero, List.set_cons_succ]
            refine wpAnyH_take (i := 15) (oi := { dst := some 90, op := Op.binOp BinOp.neq 32 (Operand.tmp 83) (Operand.tmp 89) 32, type := 4, pos := "law.go:180", after := #[{ on := 8, ground := Ground.data }, { on := 14, ground := Ground.data }, { on := 7, ground := Ground.guard }], guard := some (7, true) }) (v := undef) rfl (by kernel_rfl) (by kernel_rfl) (by kernel_rfl) (fun _ _ _ h => h) (Or.inr ⟨by rfl, rfl⟩) hHeld ?_
            simp only [Act.put, List.setIfInBounds_toArray, List.set_cons_zero, List.set_cons_succ]
            refine wpAnyH_take (i := 16) (oi := { dst := some 91, op := Op.pick (Operand.tmp 82) (Operand.tmp 90) (Operand.const (Value.bool false)), type := 4, pos := "law.go:180", after := #[{ on := 7, ground := Ground.data }, { on := 15, ground := Ground.data }, { on := 5, ground := Ground.guard }], guard := some (5, false) }) (v := ?_) rfl (by kernel_rfl) (by kernel_rfl) (by kernel_rfl) (fun _ _ _ h => h) (Or.inl ⟨by rfl, ?_⟩) hHeld ?_
            rotate_left
            · intro w hSw; (try dsimp only at hSw); go_simp; (try with_reducible rfl)
            simp only [Act.put, List.setIfInBounds_toArray, List.set_cons_zero, List.set_cons_succ]
            refine wpAnyH_take (i := 17) (oi := { dst := some 92, op := Op.pick (Operand.tmp 80) (Operand.const (Value.bool true)) (Operand.tmp 91), type := 4, pos := "law.go:180", after := #[{ on := 5, ground := Ground.data }, { on := 16, ground := Ground.data }], guard := none }) (v := ?_) rfl (by kernel_rfl) (by kernel_rfl) (by kernel_rfl) (fun _ _ _ h => h) (Or.inl ⟨by rfl, ?_⟩) hHeld ?_
            rotate_left
            · intro w hSw; (try dsimp only at hSw); go_simp; (try with_reducible rfl)
            simp only [Act.put, List.setIfInBounds_toArray, List.set_cons_zero, List.set_cons_succ]
            refine wpAnyH_take (i := 18) (oi := { dst := some 93, op := Op.move (Operand.tmp 92), type := 4, pos := "law.go:180", after := #[{ on := 17, ground := Ground.data }, { on := 7, ground := Ground.chain }], guard := none }) (v := ?_) rfl (by kernel_rfl) (by kernel_rfl) (by kernel_rfl) (fun _ _ _ h => h) (Or.inl ⟨by rfl, ?_⟩) hHeld ?_
            rotate_left
            · intro w hSw; (try dsimp only at hSw); go_simp; (try with_reducible rfl)
            simp only [Act.put, List.setIfInBounds_toArray, List.set_cons_zero, List.set_cons_succ]
            refine wpAnyH_take (i := 19) (oi := { dst := some 94, op := Op.move (Operand.tmp 10), type := 4, pos := "law.go:180", after := #[{ on := 18, ground := Ground.guard }], guard := some (18, false) }) (v := ?_) rfl (by kernel_rfl) (by kernel_rfl) (by kernel_rfl) (fun _ _ _ h => h) (Or.inl ⟨by rfl, ?_⟩) hHeld ?_
            rotate_left
            · intro w hSw; (try dsimp only at hSw); go_simp; (try with_reducible rfl)
            simp only [Act.put, List.setIfInBounds_toArray, List.set_cons_zero, List.set_cons_succ]
            refine wpAnyH_take (i := 20) (oi := { dst := some 95, op := Op.unOp UnOp.not 4 (Operand.tmp 94), type := 4, pos := "law.go:180", after := #[{ on := 19, ground := Ground.data }, { on := 18, ground := Ground.guard }], guard := some (18, false) }) (v := ?_) rfl (by kernel_rfl) (by kernel_rfl) (by kernel_rfl) (fun _ _ _ h => h) (Or.inl ⟨by rfl, ?_⟩) hHeld ?_
            rotate_left
            · intro w hSw; (try dsimp only at hSw); go_simp; (try with_reducible rfl)
            simp only [Act.put, List.setIfInBounds_toArray, List.set_cons_zero, List.set_cons_succ]
            refine wpAnyH_take (i := 21) (oi := { dst := some 96, op := Op.move (Operand.tmp 95), type := 4, pos := "law.go:180", after := #[{ on := 20, ground := Ground.data }, { on := 18, ground := Ground.chain }, { on := 18, ground := Ground.guard }], guard := some (18, false) }) (v := ?_) rfl (by kernel_rfl) (by kernel_rfl) (by kernel_rfl) (fun _ _ _ h => h) (Or.inl ⟨by rfl, ?_⟩) hHeld ?_
            rotate_left
            · intro w hSw; (try dsimp only at hSw); go_simp; (try with_reducible rfl)
            simp only [Act.put, List.setIfInBounds_toArray, List.set_cons_zero, List.set_cons_succ]
            refine wpAnyH_take (i := 22) (oi := { dst := some 97, op := Op.load 32 (Operand.tmp 9), type := 32, pos := "law.go:180", after := #[{ on := 21, ground := Ground.guard }], guard := some (21, true) }) (v := ?_) rfl (by kernel_rfl) (by kernel_rfl) (by kernel_rfl) (fun _ _ _ h => h) (Or.inl ⟨by rfl, ?_⟩) hHeld ?_
            rotate_left
            · intro w hSw; (try dsimp only at hSw); go_simp; (try with_reducible rfl)
            simp only [Act.put, List.setIfInBounds_toArray, List.set_cons_zero, List.set_cons_succ]
            refine wpAnyH_take (i := 23) (oi := { dst := some 98, op := Op.build 32 #[], type := 32, pos := "law.go:180", after := #[{ on := 21, ground := Ground.guard }], guard := some (21, true) }) (v := ?_) rfl (by kernel_rfl) (by kernel_rfl) (by kernel_rfl) (fun _ _ _ h => h) (Or.inl ⟨by rfl, ?_⟩) hHeld ?_
            rotate_left
            · intro w hSw; (try dsimp only at hSw); go_simp; (try with_reducible rfl)
            simp only [Act.put, List.setIfInBounds_toArray, List.set_cons_zero, List.set_cons_succ]
            refine wpAnyH_take (i := 24) (oi := { dst := some 99, op := Op.binOp BinOp.neq 32 (Operand.tmp 97) (Operand.tmp 98) 32, type := 4, pos := "law.go:180", after := #[{ on := 22, ground := Ground.data }, { on := 23, ground := Ground.data }, { on := 21, ground := Ground.guard }], guard := some (21, true) }) (v := ?_) rfl (by kernel_rfl) (by kernel_rfl) (by kernel_rfl) (fun _ _ _ h => h) (Or.inl ⟨by rfl, ?_⟩) hHeld ?_
            rotate_left
            · intro w hSw; (try dsimp only at hSw); go_simp; (try with_reducible rfl)
            simp only [Act.put, List.setIfInBounds_toArray, List.set_cons_zero, List.set_cons_succ]
            refine wpAnyH_take (i := 25) (oi := { dst := some 100, op := Op.pick (Operand.tmp 96) (Operand.tmp 99) (Operand.const (Value.bool false)), type := 4, pos := "law.go:180", after := #[{ on := 21, ground := Ground.data }, { on := 24, ground := Ground.data }, { on := 18, ground := Ground.guard }], guard := some (18, false) }) (v := ?_) rfl (by kernel_rfl) (by kernel_rfl) (by kernel_rfl) (fun _ _ _ h => h) (Or.inl ⟨by rfl, ?_⟩) hHeld ?_
            rotate_left
            · intro w hSw; (try dsimp only at hSw); go_simp; (try with_reducible rfl)
            simp only [Act.put, List.setIfInBounds_toArray, List.set_cons_zero, List.set_cons_succ]
            refine wpAnyH_take (i := 26) (oi := { dst := some 101, op := Op.pick (Operand.tmp 93) (Operand.const (Value.bool true)) (Operand.tmp 100), type := 4, pos := "law.go:180", after := #[{ on := 18, ground := Ground.data }, { on := 25, ground := Ground.data }], guard := none }) (v := ?_) rfl (by kernel_rfl) (by kernel_rfl) (by kernel_rfl) (fun _ _ _ h => h) (Or.inl ⟨by rfl, ?_⟩) hHeld ?_
            rotate_left
            · intro w hSw; (try dsimp only at hSw); go_simp; (try with_reducible rfl)
            simp only [Act.put, List.setIfInBounds_toArray, List.set_cons_zero, List.set_cons_succ]
            refine wpAnyH_take (i := 27) (oi := { dst := some 102, op := Op.move (Operand.tmp 101), type := 4, pos := "law.go:180", after := #[{ on := 26, ground := Ground.data }, { on := 21, ground := Ground.chain }], guard := none }) (v := ?_) rfl (by kernel_rfl) (by kernel_rfl) (by kernel_rfl) (fun _ _ _ h => h) (Or.inl ⟨by rfl, ?_⟩) hHeld ?_
            rotate_left
            · intro w hSw; (try dsimp only at hSw); go_simp; (try with_reducible rfl)
            simp only [Act.put, List.setIfInBounds_toArray, List.set_cons_zero, List.set_cons_succ]
            refine wpAnyH_take (i := 28) (oi := { dst := some 103, op := Op.move (Operand.tmp 7), type := 25, pos := "law.go:180", after := #[{ on := 27, ground := Ground.guard }], guard := some (27, false) }) (v := ?_) rfl (by kernel_rfl) (by kernel_rfl) (by kernel_rfl) (fun _ _ _ h => h) (Or.inl ⟨by rfl, ?_⟩) hHeld ?_
            rotate_left
            · intro w hSw; (try dsimp only at hSw); go_simp; (try with_reducible rfl)
            simp only [Act.put, List.setIfInBounds_toArray, List.set_cons_zero, List.set_cons_succ]
            refine wpAnyH_take (i := 29) (oi := { dst := some 104, op := Op.indexAddr 23 (Operand.tmp 4) (Operand.const (Value.int IntKind.i64 0)), type := 0, pos := "law.go:180", after := #[{ on := 27, ground := Ground.guard }], guard := some (27, false) }) (v := ?_) rfl (by kernel_rfl) (by kernel_rfl) (by kernel_rfl) (fun _ _ _ h => h) (Or.inl ⟨by rfl, ?_⟩) hHeld ?_
            rotate_left
            · intro w hSw; (try dsimp only at hSw); go_simp; (try with_reducible rfl)
            simp only [Act.put, List.setIfInBounds_toArray, List.set_cons_zero, List.set_cons_succ]
            refine wpAnyH_take (i := 30) (oi := { dst := some 105, op := Op.load 3 (Operand.tmp 104), type := 3, pos := "law.go:180", after := #[{ on := 29, ground := Ground.data }, { on := 27, ground := Ground.guard }], guard := some (27, false) }) (v := ?_) rfl (by kernel_rfl) (by kernel_rfl) (by kernel_rfl) (fun _ _ _ h => h) (Or.inl ⟨by rfl, ?_⟩) hHeld ?_
            rotate_left
            · intro w hSw; (try dsimp only at hSw); go_simp; (try with_reducible rfl)
            simp only [Act.put, List.setIfInBounds_toArray, List.set_cons_zero, List.set_cons_succ]
            refine wpAnyH_take (i := 31) (oi := { dst := some 106, op := Op.indexAddr 23 (Operand.tmp 4) (Operand.const (Value.int IntKind.i64 1)), type := 0, pos := "law.go:180", after := #[{ on := 27, ground := Ground.guard }], guard := some (27, false) }) (v := ?_) rfl (by kernel_rfl) (by kernel_rfl) (by kernel_rfl) (fun _ _ _ h => h) (Or.inl ⟨by rfl, ?_⟩) hHeld ?_
            rotate_left
            · intro w hSw; (try dsimp only at hSw); go_simp; (try with_reducible rfl)
            simp only [Act.put, List.setIfInBounds_toArray, List.set_cons_zero, List.set_cons_succ]
            refine wpAnyH_take (i := 32) (oi := { dst := some 107, op := Op.load 3 (Operand.tmp 106), type := 3, pos := "law.go:180", after := #[{ on := 31, ground := Ground.data }, { on := 27, ground := Ground.guard }], guard := some (27, false) }) (v := ?_) rfl (by kernel_rfl) (by kernel_rfl) (by kernel_rfl) (fun _ _ _ h => h) (Or.inl ⟨by rfl, ?_⟩) hHeld ?_
            rotate_left
            · intro w hSw; (try dsimp only at hSw); go_simp; (try with_reducible rfl)
            simp only [Act.put, List.setIfInBounds_toArray, List.set_cons_zero, List.set_cons_succ]
            refine wpAnyH_take (i := 33) (oi := { dst := some 108, op := Op.indexAddr 23 (Operand.tmp 4) (Operand.const (Value.int IntKind.i64 2)), type := 0, pos := "law.go:180", after := #[{ on := 27, ground := Ground.guard }], guard := some (27, false) }) (v := ?_) rfl (by kernel_rfl) (by kernel_rfl) (by kernel_rfl) (fun _ _ _ h => h) (Or.inl ⟨by rfl, ?_⟩) hHeld ?_
            rotate_left
            · intro w hSw; (try dsimp only at hSw); go_simp; (try with_reducible rfl)
            simp only [Act.put, List.setIfInBounds_toArray, List.set_cons_zero, List.set_cons_succ]
            refine wpAnyH_take (i := 34) (oi := { dst := some 109, op := Op.load 3 (Operand.tmp 108), type := 3, pos := "law.go:180", after := #[{ on := 33, ground := Ground.data }, { on := 27, ground := Ground.guard }], guard := some (27, false) }) (v := ?_) rfl (by kernel_rfl) (by kernel_rfl) (by kernel_rfl) (fun _ _ _ h => h) (Or.inl ⟨by rfl, ?_⟩) hHeld ?_
            rotate_left
            · intro w hSw; (try dsimp only at hSw); go_simp; (try with_reducible rfl)
            simp only [Act.put, List.setIfInBounds_toArray, List.set_cons_zero, List.set_cons_succ]
            refine wpAnyH_take (i := 35) (oi := { dst := some 110, op := Op.move (Operand.tmp 2), type := 3, pos := "law.go:180", after := #[{ on := 27, ground := Ground.guard }], guard := some (27, false) }) (v := ?_) rfl (by kernel_rfl) (by kernel_rfl) (by kernel_rfl) (fun _ _ _ h => h) (Or.inl ⟨by rfl, ?_⟩) hHeld ?_
            rotate_left
            · intro w hSw; (try dsimp only at hSw); go_simp; (try with_reducible rfl)
            simp only [Act.put, List.setIfInBounds_toArray, List.set_cons_zero, List.set_cons_succ]
            refine wpAnyH_take (i := 37) (oi := { dst := some 112, op := Op.load 32 (Operand.tmp 11), type := 32, pos := "law.go:180", after := #[{ on := 27, ground := Ground.guard }], guard := some (27, false) }) (v := ?_) rfl (by kernel_rfl) (by kernel_rfl) (by kernel_rfl) (fun _ _ _ h => h) (Or.inl ⟨by rfl, ?_⟩) hHeld ?_
            rotate_left
            · intro w hSw; (try dsimp only at hSw); go_simp; (try with_reducible rfl)
            simp only [Act.put, List.setIfInBounds_toArray, List.set_cons_zero, List.set_cons_succ]
            refine wpAnyH_ready (rs := [36]) (by kernel_rfl) (by simp) ?_
            refine AllReadyH.cons (o := { dst := some 111, op := Op.call { callee := Callee.value (Operand.func 19), args := #[Operand.tmp 103, Operand.tmp 105, Operand.tmp 107, Operand.tmp 109, Operand.tmp 110], argTypes := #[25, 3, 3, 3, 3] }, type := 32, pos := "law.go:180", after := #[{ on := 28, ground := Ground.data }, { on := 30, ground := Ground.data }, { on := 32, ground := Ground.data }, { on := 34, ground := Ground.data }, { on := 35, ground := Ground.data }, { on := 27, ground := Ground.chain }, { on := 27, ground := Ground.guard }], guard := some (27, false) }) rfl (fun K hK => ?_) AllReadyH.nil
            rw [if_pos (by rfl)]
            go_simp
            refine (HWN.out _ INV.out).mono ?_
            rintro e w' ⟨rfl, hf⟩
            have INV := Lib.hid (INV.out.trans (hf.mono INV.out.size (by simp)))
            clear hf
            refine hK.out _ _ (SF.out _ INV.out) (fun hHeld => ?_)
            clear hK K
            try simp only [Act.put, List.setIfInBounds_toArray, List.set_cons_zero, List.set_cons_succ]
            refine wpAnyH_take (i := 38) (oi := { dst := some 113, op := Op.binOp BinOp.neq 32 (Operand.tmp 111) (Operand.tmp 112) 32, type := 4, pos := "law.go:180", after := #[{ on := 36, ground := Ground.data }, { on := 37, ground := Ground.data }, { on := 27, ground := Ground.guard }], guard := some (27, false) }) (v := ?_) rfl (by kernel_rfl) (by kernel_rfl) (by kernel_rfl) (fun _ _ _ h => h) (Or.inl ⟨by rfl, ?_⟩) hHeld ?_
            rotate_left
            · intro w hSw; (try dsimp only at hSw); go_simp; (try with_reducible rfl)
            simp only [Act.put, List.setIfInBounds_toArray, List.set_cons_zero, List.set_cons_succ]
            refine wpAnyH_take (i := 39) (oi := { dst := some 114, op := Op.pick (Operand.tmp 102) (Operand.const (Value.bool true)) (Operand.tmp 113), type := 4, pos := "law.go:180", after := #[{ on := 27, ground := Ground.data }, { on := 38, ground := Ground.data }], guard := none }) (v := ?_) rfl (by kernel_rfl) (by kernel_rfl) (by kernel_rfl) (fun _ _ _ h => h) (Or.inl ⟨by rfl, ?_⟩) hHeld ?_
            rotate_left
            · intro w hSw; (try dsimp only at hSw); go_simp; (try with_reducible rfl)
            simp only [Act.put, List.setIfInBounds_toArray, List.set_cons_zero, List.set_cons_succ]
            refine wpAnyH_done (by kernel_rfl) ?_ _
            go_wp2_with fail
            go_meet
            exact ⟨rfl, INV⟩
          case inr =>
            have hnx : ∀ w, (binOp .neq 32 (.agg #[.int .i64 x.1, .int .i64 x.2]) (.agg #[.int .i64 x.1, .int .i64 x.2])).run Try.prog w = .ok (.bool false) w := fun w => val_one_neq _ _ w
            have hrv := RVr.out
            rw [HNV.out] at hrv
            obtain ⟨b, off, rfl, hb, p0, p1⟩ := reads_val hrv hx
            have hbr : b < wr.heap.size := Nat.lt_of_lt_of_le hb hlr
            have hdm : (0 : Int) < ((m : Int) + 1) := by omega
            have hw3 : IntKind.i64.wrap (m : Int) = (m : Int) := by rw [IntKind.wrap_i64]; omega
            have hm1 : (m : Int) < (m : Int) + 1 := by omega
            have hm0 : (0 : Int) ≤ (m : Int) := by omega
            clear hrv
            have SF := Lib.hid (fun wx (h : Fr wr.heap.size [] wr wx) => (⟨(BX.out.fr h BX.out.lt (by simp)).cell 0, (BX.out.fr h BX.out.lt (by simp)).cell 1, (BS.out.fr h BS.out.lt (by simp)).cell 0, (BS.out.fr h BS.out.lt (by simp)).cell 1, (BAr.out.fr h BAr.out.lt (by simp)).cell 0, (BAr.out.fr h BAr.out.lt (by simp)).cell 1, (BAr.out.fr h BAr.out.lt (by simp)).cell 2, (h.cell (p := ⟨b, off + m * 2, none⟩) hbr (by simp)).trans p0, (h.cell (p := ⟨b, off + m * 2 + 1, none⟩) hbr (by simp)).trans p1⟩ : wx.cell? ⟨gx, 0, none⟩ = some (.int .i64 x.1) ∧ wx.cell? ⟨gx, 1, none⟩ = some (.int .i64 x.2) ∧ wx.cell? ⟨gs, 0, none⟩ = some (.int .i64 q.1) ∧ wx.cell? ⟨gs, 1, none⟩ = some (.int .i64 q.2) ∧ wx.cell? ⟨w.heap.size, 0, none⟩ = some (.int .i64 a0) ∧ wx.cell? ⟨w.heap.size, 1, none⟩ = some (.int .i64 a1) ∧ wx.cell? ⟨w.heap.size, 2, none⟩ = some (.int .i64 a2) ∧ wx.cell? ⟨b, off + m * 2, none⟩ = some (.int .i64 x.1) ∧ wx.cell? ⟨b, off + m * 2 + 1, none⟩ = some (.int .i64 x.2)))
            have INV := Lib.hid ((Fr.refl wr.heap.size [] wr).drew)
            refine wp_region_held_drew (S := fun wx => wx.cell? ⟨gx, 0, none⟩ = some (.int .i64 x.1) ∧ wx.cell? ⟨gx, 1, none⟩ = some (.int .i64 x.2) ∧ wx.cell? ⟨gs, 0, none⟩ = some (.int .i64 q.1) ∧ wx.cell? ⟨gs, 1, none⟩ = some (.int .i64 q.2) ∧ wx.cell? ⟨w.heap.size, 0, none⟩ = some (.int .i64 a0) ∧ wx.cell? ⟨w.heap.size, 1, none⟩ = some (.int .i64 a1) ∧ wx.cell? ⟨w.heap.size, 2, none⟩ = some (.int .i64 a2) ∧ wx.cell? ⟨b, off + m * 2, none⟩ = some (.int .i64 x.1) ∧ wx.cell? ⟨b, off + m * 2 + 1, none⟩ = some (.int .i64 x.2)) (by kernel_rfl) (SF.out _ INV.out) (fun hHeld => ?_)
            refine wpAnyH_take (i := 0) (oi := { dst := some 75, op := Op.move (Operand.tmp 10), type := 4, pos := "law.go:180", after := #[], guard := none }) (v := ?_) rfl (by kernel_rfl) (by kernel_rfl) (by kernel_rfl) (fun _ _ _ h => h) (Or.inl ⟨by rfl, ?_⟩) hHeld ?_
            rotate_left
            · intro w hSw; (try dsimp only at hSw); go_simp; (try with_reducible rfl)
            simp only [Act.put, List.setIfInBounds_toArray, List.set_cons_zero, List.set_cons_succ]
            refine wpAnyH_take (i := 1) (oi := { dst := some 76, op := Op.move (Operand.tmp 8), type := 29, pos := "law.go:180", after := #[], guard := none }) (v := ?_) rfl (by kernel_rfl) (by kernel_rfl) (by kernel_rfl) (fun _ _ _ h => h) (Or.inl ⟨by rfl, ?_⟩) hHeld ?_
            rotate_left
            · intro w hSw; (try dsimp only at hSw); go_simp; (try with_reducible rfl)
            simp only [Act.put, List.setIfInBounds_toArray, List.set_cons_zero, List.set_cons_succ]
            refine wpAnyH_take (i := 2) (oi := { dst := some 77, op := Op.call { callee := Callee.builtin Builtin.len, args := #[Operand.tmp 76], argTypes := #[29] }, type := 3, pos := "law.go:180", after := #[{ on := 1, ground := Ground.data }], guard := none }) (v := ?_) rfl (by kernel_rfl) (by kernel_rfl) (by kernel_rfl) (fun _ _ _ h => h) (Or.inl ⟨by rfl, ?_⟩) hHeld ?_
            rotate_left
            · intro w hSw; (try dsimp only at hSw); go_simp; (try with_reducible rfl)
            simp only [Act.put, List.setIfInBounds_toArray, List.set_cons_zero, List.set_cons_succ]
            refine wpAnyH_take (i := 3) (oi := { dst := some 78, op := Op.binOp BinOp.gtr 3 (Operand.tmp 77) (Operand.const (Value.int IntKind.i64 0)) 3, type := 4, pos := "law.go:180", after := #[{ on := 2, ground := Ground.data }], guard := none }) (v := ?_) rfl (by kernel_rfl) (by kernel_rfl) (by kernel_rfl) (fun _ _ _ h => h) (Or.inl ⟨by rfl, ?_⟩) hHeld ?_
            rotate_left
            · intro w hSw; (try dsimp only at hSw); go_simp; (try with_reducible rfl)
            simp only [Act.put, List.setIfInBounds_toArray, List.set_cons_zero, List.set_cons_succ]
            refine wpAnyH_take (i := 4) (oi := { dst := some 79, op := Op.binOp BinOp.neq 4 (Operand.tmp 75) (Operand.tmp 78) 4, type := 4, pos := "law.go:180", after := #[{ on := 0, ground := Ground.data }, { on := 3, ground := Ground.data }], guard := none }) (v := ?_) rfl (by kernel_rfl) (by kernel_rfl) (by kernel_rfl) (fun _ _ _ h => h) (Or.inl ⟨by rfl, ?_⟩) hHeld ?_
            rotate_left
            · intro w hSw; (try dsimp only at hSw); go_simp; (try with_reducible rfl)
            simp only [Act.put, List.setIfInBounds_toArray, List.set_cons_zero, List.set_cons_succ]
            refine wpAnyH_take (i := 5) (oi := { dst := some 80, op := Op.move (Operand.tmp 79), type := 4, pos := "law.go:180", after := #[{ on := 4, ground := Ground.data }], guard := none }) (v := ?_) rfl (by kernel_rfl) (by kernel_rfl) (by kernel_rfl) (fun _ _ _ h => h) (Or.inl ⟨by rfl, ?_⟩) hHeld ?_
            rotate_left
            · intro w hSw; (try dsimp only at hSw); go_simp; (try with_reducible rfl)
            simp only [Act.put, List.setIfInBounds_toArray, List.set_cons_zero, List.set_cons_succ]
            refine wpAnyH_take (i := 6) (oi := { dst := some 81, op := Op.move (Operand.tmp 10), type := 4, pos := "law.go:180", after := #[{ on := 5, ground := Ground.guard }], guard := some (5, false) }) (v := ?_) rfl (by kernel_rfl) (by kernel_rfl) (by kernel_rfl) (fun _ _ _ h => h) (Or.inl ⟨by rfl, ?_⟩) hHeld ?_
            rotate_left
            · intro w hSw; (try dsimp only at hSw); go_simp; (try with_reducible rfl)
            simp only [Act.put, List.setIfInBounds_toArray, List.set_cons_zero, List.set_cons_succ]
            refine wpAnyH_take (i := 7) (oi := { dst := some 82, op := Op.move (Operand.tmp 81), type := 4, pos := "law.go:180", after := #[{ on := 6, ground := Ground.data }, { on := 5, ground := Ground.chain }, { on := 5, ground := Ground.guard }], guard := some (5, false) }) (v := ?_) rfl (by kernel_rfl) (by kernel_rfl) (by kernel_rfl) (fun _ _ _ h => h) (Or.inl ⟨by rfl, ?_⟩) hHeld ?_
            rotate_left
            · intro w hSw; (try dsimp only at hSw); go_simp; (try with_reducible rfl)
            simp only [Act.put, List.setIfInBounds_toArray, List.set_cons_zero, List.set_cons_succ]
            refine wpAnyH_take (i := 8) (oi := { dst := some 83, op := Op.load 32 (Operand.tmp 9), type := 32, pos := "law.go:180", after := #[{ on := 7, ground := Ground.guard }], guard := some (7, true) }) (v := ?_) rfl (by kernel_rfl) (by kernel_rfl) (by kernel_rfl) (fun _ _ _ h => h) (Or.inl ⟨by rfl, ?_⟩) hHeld ?_
            rotate_left
            · intro w hSw; (try dsimp only at hSw); go_simp; (try with_reducible rfl)
            simp only [Act.put, List.setIfInBounds_toArray, List.set_cons_zero, List.set_cons_succ]
            refine wpAnyH_take (i := 9) (oi := { dst := some 84, op := Op.move (Operand.tmp 8), type := 29, pos := "law.go:180", after := #[{ on := 7, ground := Ground.guard }], guard := some (7, true) }) (v := ?_) rfl (by kernel_rfl) (by kernel_rfl) (by kernel_rfl) (fun _ _ _ h => h) (Or.inl ⟨by rfl, ?_⟩) hHeld ?_
            rotate_left
            · intro w hSw; (try dsimp only at hSw); go_simp; (try with_reducible rfl)
            simp only [Act.put, List.setIfInBounds_toArray, List.set_cons_zero, List.set_cons_succ]
            refine wpAnyH_take (i := 10) (oi := { dst := some 85, op := Op.move (Operand.tmp 8), type := 29, pos := "law.go:180", after := #[{ on := 7, ground := Ground.guard }], guard := some (7, true) }) (v := ?_) rfl (by kernel_rfl) (by kernel_rfl) (by kernel_rfl) (fun _ _ _ h => h) (Or.inl ⟨by rfl, ?_⟩) hHeld ?_
            rotate_left
            · intro w hSw; (try dsimp only at hSw); go_simp; (try with_reducible rfl)
            simp only [Act.put, List.setIfInBounds_toArray, List.set_cons_zero, List.set_cons_succ]
            refine wpAnyH_take (i := 11) (oi := { dst := some 86, op := Op.call { callee := Callee.builtin Builtin.len, args := #[Operand.tmp 85], argTypes := #[29] }, type := 3, pos := "law.go:180", after := #[{ on := 10, ground := Ground.data }, { on := 7, ground := Ground.guard }], guard := some (7, true) }) (v := ?_) rfl (by kernel_rfl) (by kernel_rfl) (by kernel_rfl) (fun _ _ _ h => h) (Or.inl ⟨by rfl, ?_⟩) hHeld ?_
            rotate_left
            · intro w hSw; (try dsimp only at hSw); go_simp; (try with_reducible rfl)
            simp only [Act.put, List.setIfInBounds_toArray, List.set_cons_zero, List.set_cons_succ]
            refine wpAnyH_take (i := 12) (oi := { dst := some 87, op := Op.binOp BinOp.sub 3 (Operand.tmp 86) (Operand.const (Value.int IntKind.i64 1)) 3, type := 3, pos := "law.go:180", after := #[{ on := 11, ground := Ground.data }, { on := 7, ground := Ground.guard }], guard := some (7, true) }) (v := ?_) rfl (by kernel_rfl) (by kernel_rfl) (by kernel_rfl) (fun _ _ _ h => h) (Or.inl ⟨by rfl, ?_⟩) hHeld ?_
            rotate_left
            · intro w hSw; (try dsimp only at hSw); go_simp; (try with_reducible rfl)
            simp only [Act.put, List.setIfInBounds_toArray, List.set_cons_zero, List.set_cons_succ]
            refine wpAnyH_take (i := 13) (oi := { dst := some 88, op := Op.indexAddr 29 (Operand.tmp 84) (Operand.tmp 87), type := 0, pos := "law.go:180", after := #[{ on := 9, ground := Ground.data }, { on := 12, ground := Ground.data }, { on := 7, ground := Ground.guard }], guard := some (7, true) }) (v := ?_) rfl (by kernel_rfl) (by kernel_rfl) (by kernel_rfl) (fun _ _ _ h => h) (Or.inl ⟨by rfl, ?_⟩) hHeld ?_
            rotate_left
            · intro w hSw; (try dsimp only at hSw); go_simp; (try with_reducible rfl)
            simp only [Act.put, List.setIfInBounds_toArray, List.set_cons_zero, List.set_cons_succ]
            refine wpAnyH_take (i := 14) (oi := { dst := some 89, op := Op.load 32 (Operand.tmp 88), type := 32, pos := "law.go:180", after := #[{ on := 13, ground := Ground.data }, { on := 7, ground := Ground.guard }], guard := some (7, true) }) (v := ?_) rfl (by kernel_rfl) (by kernel_rfl) (by kernel_rfl) (fun _ _ _ h => h) (Or.inl ⟨by rfl, ?_⟩) hHeld ?_
            rotate_left
            · intro w hSw; (try dsimp only at hSw); go_simp; (try with_reducible rfl)
            simp only [Act.put, List.setIfInBounds_toArray, List.set_cons_zero, List.set_cons_succ]
            refine wpAnyH_take (i := 15) (oi := { dst := some 90, op := Op.binOp BinOp.neq 32 (Operand.tmp 83) (Operand.tmp 89) 32, type := 4, pos := "law.go:180", after := #[{ on := 8, ground := Ground.data }, { on := 14, ground := Ground.data }, { on := 7, ground := Ground.guard }], guard := some (7, true) }) (v := ?_) rfl (by kernel_rfl) (by kernel_rfl) (by kernel_rfl) (fun _ _ _ h => h) (Or.inl ⟨by rfl, ?_⟩) hHeld ?_
            rotate_left
            · intro w hSw; (try dsimp only at hSw); go_simp; (try with_reducible rfl)
            simp only [Act.put, List.setIfInBounds_toArray, List.set_cons_zero, List.set_cons_succ]
            refine wpAnyH_take (i := 16) (oi := { dst := some 91, op := Op.pick (Operand.tmp 82) (Operand.tmp 90) (Operand.const (Value.bool false)), type := 4, pos := "law.go:180", after := #[{ on := 7, ground := Ground.data }, { on := 15, ground := Ground.data }, { on := 5, ground := Ground.guard }], guard := some (5, false) }) (v := ?_) rfl (by kernel_rfl) (by kernel_rfl) (by kernel_rfl) (fun _ _ _ h => h) (Or.inl ⟨by rfl, ?_⟩) hHeld ?_
            rotate_left
            · intro w hSw; (try dsimp only at hSw); go_simp; (try with_reducible rfl)
            simp only [Act.put, List.setIfInBounds_toArray, List.set_cons_zero, List.set_cons_succ]
            refine wpAnyH_take (i := 17) (oi := { dst := some 92, op := Op.pick (Operand.tmp 80) (Operand.const (Value.bool true)) (Operand.tmp 91), type := 4, pos := "law.go:180", after := #[{ on := 5, ground := Ground.data }, { on := 16, ground := Ground.data }], guard := none }) (v := ?_) rfl (by kernel_rfl) (by kernel_rfl) (by kernel_rfl) (fun _ _ _ h => h) (Or.inl ⟨by rfl, ?_⟩) hHeld ?_
            rotate_left
            · intro w hSw; (try dsimp only at hSw); go_simp; (try with_reducible rfl)
            simp only [Act.put, List.setIfInBounds_toArray, List.set_cons_zero, List.set_cons_succ]
            refine wpAnyH_take (i := 18) (oi := { dst := some 93, op := Op.move (Operand.tmp 92), type := 4, pos := "law.go:180", after := #[{ on := 17, ground := Ground.data }, { on := 7, ground := Ground.chain }], guard := none }) (v := ?_) rfl (by kernel_rfl) (by kernel_rfl) (by kernel_rfl) (fun _ _ _ h => h) (Or.inl ⟨by rfl, ?_⟩) hHeld ?_
            rotate_left
            · intro w hSw; (try dsimp only at hSw); go_simp; (try with_reducible rfl)
            simp only [Act.put, List.setIfInBounds_toArray, List.set_cons_zero, List.set_cons_succ]
            refine wpAnyH_take (i := 19) (oi := { dst := some 94, op := Op.move (Operand.tmp 10), type := 4, pos := "law.go:180", after := #[{ on := 18, ground := Ground.guard }], guard := some (18, false) }) (v := ?_) rfl (by kernel_rfl) (by kernel_rfl) (by kernel_rfl) (fun _ _ _ h => h) (Or.inl ⟨by rfl, ?_⟩) hHeld ?_
            rotate_left
            · intro w hSw; (try dsimp only at hSw); go_simp; (try with_reducible rfl)
            simp only [Act.put, List.setIfInBounds_toArray, List.set_cons_zero, List.set_cons_succ]
            refine wpAnyH_take (i := 20) (oi := { dst := some 95, op := Op.unOp UnOp.not 4 (Operand.tmp 94), type := 4, pos := "law.go:180", after := #[{ on := 19, ground := Ground.data }, { on := 18, ground := Ground.guard }], guard := some (18, false) }) (v := ?_) rfl (by kernel_rfl) (by kernel_rfl) (by kernel_rfl) (fun _ _ _ h => h) (Or.inl ⟨by rfl, ?_⟩) hHeld ?_
            rotate_left
            · intro w hSw; (try dsimp only at hSw); go_simp; (try with_reducible rfl)
            simp only [Act.put, List.setIfInBounds_toArray, List.set_cons_zero, List.set_cons_succ]
            refine wpAnyH_take (i := 21) (oi := { dst := some 96, op := Op.move (Operand.tmp 95), type := 4, pos := "law.go:180", after := #[{ on := 20, ground := Ground.data }, { on := 18, ground := Ground.chain }, { on := 18, ground := Ground.guard }], guard := some (18, false) }) (v := ?_) rfl (by kernel_rfl) (by kernel_rfl) (by kernel_rfl) (fun _ _ _ h => h) (Or.inl ⟨by rfl, ?_⟩) hHeld ?_
            rotate_left
            · intro w hSw; (try dsimp only at hSw); go_simp; (try with_reducible rfl)
            simp only [Act.put, List.setIfInBounds_toArray, List.set_cons_zero, List.set_cons_succ]
            refine wpAnyH_take (i := 22) (oi := { dst := some 97, op := Op.load 32 (Operand.tmp 9), type := 32, pos := "law.go:180", after := #[{ on := 21, ground := Ground.guard }], guard := some (21, true) }) (v := undef) rfl (by kernel_rfl) (by kernel_rfl) (by kernel_rfl) (fun _ _ _ h => h) (Or.inr ⟨by rfl, rfl⟩) hHeld ?_
            simp only [Act.put, List.setIfInBounds_toArray, List.set_cons_zero, List.set_cons_succ]
            refine wpAnyH_take (i := 23) (oi := { dst := some 98, op := Op.build 32 #[], type := 32, pos := "law.go:180", after := #[{ on := 21, ground := Ground.guard }], guard := some (21, true) }) (v := undef) rfl (by kernel_rfl) (by kernel_rfl) (by kernel_rfl) (fun _ _ _ h => h) (Or.inr ⟨by rfl, rfl⟩) hHeld ?_
            simp only [Act.put, List.setIfInBounds_toArray, List.set_cons_zero, List.set_cons_succ]
            refine wpAnyH_take (i := 24) (oi := { dst := some 99, op := Op.binOp BinOp.neq 32 (Operand.tmp 97) (Operand.tmp 98) 32, type := 4, pos := "law.go:180", after := #[{ on := 22, ground := Ground.data }, { on := 23, ground := Ground.data }, { on := 21, ground := Ground.guard }], guard := some (21, true) }) (v := undef) rfl (by kernel_rfl) (by kernel_rfl) (by kernel_rfl) (fun _ _ _ h => h) (Or.inr ⟨by rfl, rfl⟩) hHeld ?_
            simp only [Act.put, List.setIfInBounds_toArray, List.set_cons_zero, List.set_cons_succ]
            refine wpAnyH_take (i := 25) (oi := { dst := some 100, op := Op.pick (Operand.tmp 96) (Operand.tmp 99) (Operand.const (Value.bool false)), type := 4, pos := "law.go:180", after := #[{ on := 21, ground := Ground.data }, { on := 24, ground := Ground.data }, { on := 18, ground := Ground.guard }], guard := some (18, false) }) (v := ?_) rfl (by kernel_rfl) (by kernel_rfl) (by kernel_rfl) (fun _ _ _ h => h) (Or.inl ⟨by rfl, ?_⟩) hHeld ?_
            rotate_left
            · intro w hSw; (try dsimp only at hSw); go_simp; (try with_reducible rfl)
            simp only [Act.put, List.setIfInBounds_toArray, List.set_cons_zero, List.set_cons_succ]
            refine wpAnyH_take (i := 26) (oi := { dst := some 101, op := Op.pick (Operand.tmp 93) (Operand.const (Value.bool true)) (Operand.tmp 100), type := 4, pos := "law.go:180", after := #[{ on := 18, ground := Ground.data }, { on := 25, ground := Ground.data }], guard := none }) (v := ?_) rfl (by kernel_rfl) (by kernel_rfl) (by kernel_rfl) (fun _ _ _ h => h) (Or.inl ⟨by rfl, ?_⟩) hHeld ?_
            rotate_left
            · intro w hSw; (try dsimp only at hSw); go_simp; (try with_reducible rfl)
            simp only [Act.put, List.setIfInBounds_toArray, List.set_cons_zero, List.set_cons_succ]
            refine wpAnyH_take (i := 27) (oi := { dst := some 102, op := Op.move (Operand.tmp 101), type := 4, pos := "law.go:180", after := #[{ on := 26, ground := Ground.data }, { on := 21, ground := Ground.chain }], guard := none }) (v := ?_) rfl (by kernel_rfl) (by kernel_rfl) (by kernel_rfl) (fun _ _ _ h => h) (Or.inl ⟨by rfl, ?_⟩) hHeld ?_
            rotate_left
            · intro w hSw; (try dsimp only at hSw); go_simp; (try with_reducible rfl)
            simp only [Act.put, List.setIfInBounds_toArray, List.set_cons_zero, List.set_cons_succ]
            refine wpAnyH_take (i := 28) (oi := { dst := some 103, op := Op.move (Operand.tmp 7), type := 25, pos := "law.go:180", after := #[{ on := 27, ground := Ground.guard }], guard := some (27, false) }) (v := ?_) rfl (by kernel_rfl) (by kernel_rfl) (by kernel_rfl) (fun _ _ _ h => h) (Or.inl ⟨by rfl, ?_⟩) hHeld ?_
            rotate_left
            · intro w hSw; (try dsimp only at hSw); go_simp; (try with_reducible rfl)
            simp only [Act.put, List.setIfInBounds_toArray, List.set_cons_zero, List.set_cons_succ]
            refine wpAnyH_take (i := 29) (oi := { dst := some 104, op := Op.indexAddr 23 (Operand.tmp 4) (Operand.const (Value.int IntKind.i64 0)), type := 0, pos := "law.go:180", after := #[{ on := 27, ground := Ground.guard }], guard := some (27, false) }) (v := ?_) rfl (by kernel_rfl) (by kernel_rfl) (by kernel_rfl) (fun _ _ _ h => h) (Or.inl ⟨by rfl, ?_⟩) hHeld ?_
            rotate_left
            · intro w hSw; (try dsimp only at hSw); go_simp; (try with_reducible rfl)
            simp only [Act.put, List.setIfInBounds_toArray, List.set_cons_zero, List.set_cons_succ]
            refine wpAnyH_take (i := 30) (oi := { dst := some 105, op := Op.load 3 (Operand.tmp 104), type := 3, pos := "law.go:180", after := #[{ on := 29, ground := Ground.data }, { on := 27, ground := Ground.guard }], guard := some (27, false) }) (v := ?_) rfl (by kernel_rfl) (by kernel_rfl) (by kernel_rfl) (fun _ _ _ h => h) (Or.inl ⟨by rfl, ?_⟩) hHeld ?_
            rotate_left
            · intro w hSw; (try dsimp only at hSw); go_simp; (try with_reducible rfl)
            simp only [Act.put, List.setIfInBounds_toArray, List.set_cons_zero, List.set_cons_succ]
            refine wpAnyH_take (i := 31) (oi := { dst := some 106, op := Op.indexAddr 23 (Operand.tmp 4) (Operand.const (Value.int IntKind.i64 1)), type := 0, pos := "law.go:180", after := #[{ on := 27, ground := Ground.guard }], guard := some (27, false) }) (v := ?_) rfl (by kernel_rfl) (by kernel_rfl) (by kernel_rfl) (fun _ _ _ h => h) (Or.inl ⟨by rfl, ?_⟩) hHeld ?_
            rotate_left
            · intro w hSw; (try dsimp only at hSw); go_simp; (try with_reducible rfl)
            simp only [Act.put, List.setIfInBounds_toArray, List.set_cons_zero, List.set_cons_succ]
            refine wpAnyH_take (i := 32) (oi := { dst := some 107, op := Op.load 3 (Operand.tmp 106), type := 3, pos := "law.go:180", after := #[{ on := 31, ground := Ground.data }, { on := 27, ground := Ground.guard }], guard := some (27, false) }) (v := ?_) rfl (by kernel_rfl) (by kernel_rfl) (by kernel_rfl) (fun _ _ _ h => h) (Or.inl ⟨by rfl, ?_⟩) hHeld ?_
            rotate_left
            · intro w hSw; (try dsimp only at hSw); go_simp; (try with_reducible rfl)
            simp only [Act.put, List.setIfInBounds_toArray, List.set_cons_zero, List.set_cons_succ]
            refine wpAnyH_take (i := 33) (oi := { dst := some 108, op := Op.indexAddr 23 (Operand.tmp 4) (Operand.const (Value.int IntKind.i64 2)), type := 0, pos := "law.go:180", after := #[{ on := 27, ground := Ground.guard }], guard := some (27, false) }) (v := ?_) rfl (by kernel_rfl) (by kernel_rfl) (by kernel_rfl) (fun _ _ _ h => h) (Or.inl ⟨by rfl, ?_⟩) hHeld ?_
            rotate_left
            · intro w hSw; (try dsimp only at hSw); go_simp; (try with_reducible rfl)
            simp only [Act.put, List.setIfInBounds_toArray, List.set_cons_zero, List.set_cons_succ]
            refine wpAnyH_take (i := 34) (oi := { dst := some 109, op := Op.load 3 (Operand.tmp 108), type := 3, pos := "law.go:180", after := #[{ on := 33, ground := Ground.data }, { on := 27, ground := Ground.guard }], guard := some (27, false) }) (v := ?_) rfl (by kernel_rfl) (by kernel_rfl) (by kernel_rfl) (fun _ _ _ h => h) (Or.inl ⟨by rfl, ?_⟩) hHeld ?_
            rotate_left
            · intro w hSw; (try dsimp only at hSw); go_simp; (try with_reducible rfl)
            simp only [Act.put, List.setIfInBounds_toArray, List.set_cons_zero, List.set_cons_succ]
            refine wpAnyH_take (i := 35) (oi := { dst := some 110, op := Op.move (Operand.tmp 2), type := 3, pos := "law.go:180", after := #[{ on := 27, ground := Ground.guard }], guard := some (27, false) }) (v := ?_) rfl (by kernel_rfl) (by kernel_rfl) (by kernel_rfl) (fun _ _ _ h => h) (Or.inl ⟨by rfl, ?_⟩) hHeld ?_
            rotate_left
            · intro w hSw; (try dsimp only at hSw); go_simp; (try with_reducible rfl)
            simp only [Act.put, List.setIfInBounds_toArray, List.set_cons_zero, List.set_cons_succ]
            refine wpAnyH_take (i := 37) (oi := { dst := some 112, op := Op.load 32 (Operand.tmp 11), type := 32, pos := "law.go:180", after := #[{ on := 27, ground := Ground.guard }], guard := some (27, false) }) (v := ?_) rfl (by kernel_rfl) (by kernel_rfl) (by kernel_rfl) (fun _ _ _ h => h) (Or.inl ⟨by rfl, ?_⟩) hHeld ?_
            rotate_left
            · intro w hSw; (try dsimp only at hSw); go_simp; (try with_reducible rfl)
            simp only [Act.put, List.setIfInBounds_toArray, List.set_cons_zero, List.set_cons_succ]
            refine wpAnyH_ready (rs := [36]) (by kernel_rfl) (by simp) ?_
            refine AllReadyH.cons (o := { dst := some 111, op := Op.call { callee := Callee.value (Operand.func 19), args := #[Operand.tmp 103, Operand.tmp 105, Operand.tmp 107, Operand.tmp 109, Operand.tmp 110], argTypes := #[25, 3, 3, 3, 3] }, type := 32, pos := "law.go:180", after := #[{ on := 28, ground := Ground.data }, { on := 30, ground := Ground.data }, { on := 32, ground := Ground.data }, { on := 34, ground := Ground.data }, { on := 35, ground := Ground.data }, { on := 27, ground := Ground.chain }, { on := 27, ground := Ground.guard }], guard := some (27, false) }) rfl (fun K hK => ?_) AllReadyH.nil
            rw [if_pos (by rfl)]
            go_simp
            refine (HWN.out _ INV.out).mono ?_
            rintro e w' ⟨rfl, hf⟩
            have INV := Lib.hid (INV.out.trans (hf.mono INV.out.size (by simp)))
            clear hf
            refine hK.out _ _ (SF.out _ INV.out) (fun hHeld => ?_)
            clear hK K
            try simp only [Act.put, List.setIfInBounds_toArray, List.set_cons_zero, List.set_cons_succ]
            refine wpAnyH_take (i := 38) (oi := { dst := some 113, op := Op.binOp BinOp.neq 32 (Operand.tmp 111) (Operand.tmp 112) 32, type := 4, pos := "law.go:180", after := #[{ on := 36, ground := Ground.data }, { on := 37, ground := Ground.data }, { on := 27, ground := Ground.guard }], guard := some (27, false) }) (v := ?_) rfl (by kernel_rfl) (by kernel_rfl) (by kernel_rfl) (fun _ _ _ h => h) (Or.inl ⟨by rfl, ?_⟩) hHeld ?_
            rotate_left
            · intro w hSw; (try dsimp only at hSw); go_simp; (try with_reducible rfl)
            simp only [Act.put, List.setIfInBounds_toArray, List.set_cons_zero, List.set_cons_succ]
            refine wpAnyH_take (i := 39) (oi := { dst := some 114, op := Op.pick (Operand.tmp 102) (Operand.const (Value.bool true)) (Operand.tmp 113), type := 4, pos := "law.go:180", after := #[{ on := 27, ground := Ground.data }, { on := 38, ground := Ground.data }], guard := none }) (v := ?_) rfl (by kernel_rfl) (by kernel_rfl) (by kernel_rfl) (fun _ _ _ h => h) (Or.inl ⟨by rfl, ?_⟩) hHeld ?_
            rotate_left
            · intro w hSw; (try dsimp only at hSw); go_simp; (try with_reducible rfl)
            simp only [Act.put, List.setIfInBounds_toArray, List.set_cons_zero, List.set_cons_succ]
            refine wpAnyH_done (by kernel_rfl) ?_ _
            go_wp2_with fail
            go_meet
            exact ⟨rfl, INV⟩
        case rest =>
          obtain ⟨rfl, FR⟩ := hcut
          have BTr := Lib.hid (BT.out.fr FR.out BT.out.lt (by simp))
          have BAq := Lib.hid (BAr.out.fr FR.out BAr.out.lt (by simp))
          clear hxe BX BS BT BAr HWN hnq RVr
          go_wp2_with fail
          refine (HTT.out _ FR.out).mono ?_
          rintro e wt ⟨K, L, At, ct, hK, hp, hso, rfl, hrd, hft⟩
          obtain ⟨nL, hnL⟩ : ∃ nL, nL = L.length := ⟨_, rfl⟩
          have hnLm : nL ≤ 1000000 := by rw [hnL, hp.length_eq, List.length_map]; exact Nat.le_trans (keys_le hK) HL6.out
          have HNL := Lib.hid hnL
          have RL := Lib.hid hrd
          have HP := Lib.hid hp
          have BTt := Lib.hid (BTr.out.fr hft BTr.out.lt (by simp))
          have BAt := Lib.hid (BAq.out.fr hft BAq.out.lt (by simp))
          have FT := Lib.hid (FR.out.trans (hft.mono (B' := wr.heap.size) (L' := []) FR.out.size (by simp)))
          have BLt := Lib.hid (BLr.out.trans (FT.out.below.mono BLr.out.size))
          rw [← hnL]
          clear hK hp hso hrd hft hnL BTr BAq HTT FR FC BLc BLr FT
          go_wp2_with fail
          go_loopg [16, 118] nL (fun g s16 s118 wz => ∃ i : Nat, i ≤ nL ∧ g = nL - i ∧ s118 = .int .i64 i ∧ (s16 = undef ∨ ∃ a, s16 = .pointer a) ∧ RowKit.Hid (Fr wt.heap.size [] wt wz))
          case atStart => exact ⟨0, Nat.zero_le _, rfl, rfl, .inl rfl, Lib.hid (Fr.refl _ _ _)⟩
          case round =>
            obtain ⟨i, hi, rfl, rfl, hs16, FZ⟩ := hrel
            by_cases hin : i < nL
            · have hii : (i : Int) < (nL : Int) := by omega
              obtain ⟨x, hx⟩ : ∃ x, L[i]? = some x := ⟨_, List.getElem?_eq_getElem (by rw [← HNL.out]; exact hin)⟩
              have hrl := RL.out.fr FZ.out (Nat.le_refl _) (by simp)
              obtain ⟨b, off, rfl, hb, pc⟩ := reads_tot hrl hx
              have p0 := pc 0 (by omega)
              have p1 := pc 1 (by omega)
              have p2 := pc 2 (by omega)
              have p3 := pc 3 (by omega)
              have p4 := pc 4 (by omega)
              have p5 := pc 5 (by omega)
              simp only [Nat.add_zero] at p0
              have HTA := Lib.hid (fun h0 h1 h2 => tot_ask HP.out (List.mem_of_getElem? hx) (s := a0) (f := a1) (k := a2) h0 h1 h2)
              clear pc hx hrl
              go_upto_region 23 with fail
              have BZ := Lib.hid (Blk.new wr 40 #[.int .i64 (x 0), .int .i64 (x 1), .int .i64 (x 2), .int .i64 (x 3), .int .i64 (x 4), .int .i64 (x 5)])
              have BTz := Lib.hid ((BTt.out.fr FZ.out BTt.out.lt (by simp)).alloc (.cells #[.int .i64 (x 0), .int .i64 (x 1), .int .i64 (x 2), .int .i64 (x 3), .int .i64 (x 4), .int .i64 (x 5)] 40))
              have BAz := Lib.hid ((BAt.out.fr FZ.out BAt.out.lt (by simp)).alloc (.cells #[.int .i64 (x 0), .int .i64 (x 1), .int .i64 (x 2), .int .i64 (x 3), .int .i64 (x 4), .int .i64 (x 5)] 40))
              have FZz := Lib.hid (FZ.out.alloc FZ.out.size (.cells #[.int .i64 (x 0), .int .i64 (x 1), .int .i64 (x 2), .int .i64 (x 3), .int .i64 (x 4), .int .i64 (x 5)] 40))
              clear p0 p1 p2 p3 p4 p5 FZ hb
              generalize wr.alloc (.cells #[.int .i64 (x 0), .int .i64 (x 1), .int .i64 (x 2), .int .i64 (x 3), .int .i64 (x 4), .int .i64 (x 5)] 40) = wy at *
              generalize wr.heap.size = gz at *
              have q0 := BZ.out.cell 0
              have q1 := BZ.out.cell 1
              have q2 := BZ.out.cell 2
              have q4 := BZ.out.cell 4
              have q5 := BZ.out.cell 5
              have t0 := BTz.out.cell 0
              have t1 := BTz.out.cell 1
              have u0 := BAz.out.cell 0
              have u1 := BAz.out.cell 1
              have u2 := BAz.out.cell 2
              simp at q0 q1 q2 q4 q5 t0 t1 u0 u1 u2
              obtain ⟨y0, hy0⟩ : ∃ a, a = x 0 := ⟨_, rfl⟩
              obtain ⟨y1, hy1⟩ : ∃ a, a = x 1 := ⟨_, rfl⟩
              obtain ⟨y2, hy2⟩ : ∃ a, a = x 2 := ⟨_, rfl⟩
              have HY0 := Lib.hid hy0
              have HY1 := Lib.hid hy1
              have HY2 := Lib.hid hy2
              clear hy0 hy1 hy2
              rw [← HY0.out] at q0
              rw [← HY1.out] at q1
              rw [← HY2.out] at q2
              have hrel2 : RowKit.Hid (Fr wt.heap.size [] wt wy) := FZz
              by_cases e0 : y0 = a0
              · by_cases e1 : y1 = a1
                · by_cases e2 : y2 = a2
                  · have hta := HTA.out (by rw [← HY0.out]; exact e0) (by rw [← HY1.out]; exact e1) (by rw [← HY2.out]; exact e2)
                    rw [← HV.out, ← HT.out] at hta
                    rw [hta.1] at q4
                    rw [hta.2] at q5
                    subst e0 e1 e2
                    have hnt : ∀ w, (binOp .neq 32 (.agg #[.int .i64 t.1, .int .i64 t.2]) (.agg #[.int .i64 t.1, .int .i64 t.2])).run Try.prog w = .ok (.bool false) w := fun w => val_one_neq _ _ w
                    go_wp2_with fail
                    go_roundg (nL - (i + 1))
                    case measure => omega
                    case rel => exact ⟨i + 1, by omega, rfl, by go_num, .inr ⟨_, rfl⟩, FZz⟩
                  · subst e0 e1
                    have hd2 : decide (y2 = a2) = false := decide_eq_false e2
                    go_wp2_with fail
                    go_roundg (nL - (i + 1))
                    case measure => omega
                    case rel => exact ⟨i + 1, by omega, rfl, by go_num, .inr ⟨_, rfl⟩, FZz⟩
                · subst e0
                  have hd1 : decide (y1 = a1) = false := decide_eq_false e1
                  go_wp2_with fail
                  go_roundg (nL - (i + 1))
                  case measure => omega
                  case rel => exact ⟨i + 1, by omega, rfl, by go_num, .inr ⟨_, rfl⟩, FZz⟩
              · have hd0 : decide (y0 = a0) = false := decide_eq_false e0
                go_wp2_with fail
                go_roundg (nL - (i + 1))
                case measure => omega
                case rel => exact ⟨i + 1, by omega, rfl, by go_num, .inr ⟨_, rfl⟩, FZz⟩
            · obtain rfl : nL = i := by omega
              have BLz := Lib.hid (BLt.out.trans (FZ.out.below.mono BLt.out.size))
              clear FZ BLt
              go_upto_region 27 with fail
              have HNL2 := Lib.hid (nlast 1 0 0)
              have HNW := Lib.hid (nwindow 1 0 0)
              go_wp2_with fail
              refine (HNL2.out _).mono ?_
              rintro e wp ⟨rfl, fp⟩
              have BLp := Lib.hid (BLz.out.trans (fp.below.mono BLz.out.size))
              clear fp
              have hnt : ∀ w, (binOp .eql 32 (.agg #[.int .i64 0, .int .i64 0]) (.agg #[.int .i64 0, .int .i64 0])).run Try.prog w = .ok (.bool true) w := fun w => val_one_eq _ _ w
              go_upto_region 28 with fail
              have BLq := Lib.hid (BLp.out.alloc BLp.out.size (.cells #[.int .i64 0, .int .i64 0] 32))
              go_wp2_with fail
              refine (HNW.out _).mono ?_
              rintro e wq ⟨rfl, fq⟩
              have BLr2 := Lib.hid (BLq.out.trans (fq.below.mono BLq.out.size))
              clear fq
              go_wp2_with fail
              go_ret
              exact ⟨rfl, BLr2.out⟩
end Go.Proofs.Ytdkdhhfejbecdaa
