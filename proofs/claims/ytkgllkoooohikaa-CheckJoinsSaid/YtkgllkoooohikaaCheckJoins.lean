/- forebaylaw05.CheckJoins. -/
import Derived.Test.YtkgllkoooohikaaJoin
import Derived.Test.YtkgllkoooohikaaCheckDead
import Derived.Test.YtkgllkoooohikaaCheck
namespace Go.Proofs.Ytkgllkoooohikaa
open Go.RowKit Go.Fb
theorem reads_take {w : World} {B : Nat} {A : Option Addr} {l : List (Int × Int)} (h : Reads w B 2 A l.length (cellsI l)) (m : Nat) (hm : m ≤ l.length) : Reads w B 2 A m (cellsI (l.take m)) := by
  have hl : (l.take m).length = m := by rw [List.length_take]; omega
  refine ⟨by rw [cellsI_length, hl], fun h0 => ?_⟩
  obtain ⟨b, off, e, hb, hc⟩ := h.2 (by omega)
  refine ⟨b, off, e, hb, fun j u hu => hc j u ?_⟩
  have hj : j < m * 2 := by
    rcases Nat.lt_or_ge j (m * 2) with h' | h'
    · exact h'
    · rw [List.getElem?_eq_none (by rw [cellsI_length, hl]; exact h')] at hu; cases hu
  have e : cellsI l = cellsI (l.take m) ++ cellsI (l.drop m) := by
    unfold cellsI
    rw [← List.flatMap_append, List.take_append_drop]
  rw [e, List.getElem?_append_left (by rw [cellsI_length, hl]; exact hj)]
  exact hu
set_option maxRecDepth 100000 in
set_option maxHeartbeats 4000000 in
theorem walk_CheckJoins (A1 : Option Addr) (c1 : Nat) (l : List (Int × Int)) (hc1 : c1 ≤ maxLen) (hlc1 : l.length ≤ c1) (A2 : Option Addr) (c2 : Nat) (m : List (Int × Int)) (hc2 : c2 ≤ maxLen) (hlc2 : m.length ≤ c2) (tt : Int) (htt : 0 ≤ tt ∧ tt ≤ 255) (w : World)
    (hr1 : Reads w w.heap.size 2 A1 l.length (cellsI l)) (hr2 : Reads w w.heap.size 2 A2 m.length (cellsI m)) :
    Calls Try.prog 4 #[.slice A1 l.length c1, .slice A2 m.length c2, .int .u8 tt] w fun e w' => e = .returned (.bool true) ∧ Below w.heap.size w w' := by
  have HL1 := Lib.hid (Nat.le_trans hlc1 hc1)
  have HL2 := Lib.hid (Nat.le_trans hlc2 hc2)
  have hm1 := HL1.out
  have hm2 := HL2.out
  unfold maxLen at hm1 hm2
  have R1 := Lib.hid hr1
  have R2 := Lib.hid hr2
  obtain ⟨ht0, ht1⟩ := htt
  obtain ⟨n, hn⟩ : ∃ n, n = l.length := ⟨_, rfl⟩
  obtain ⟨q, hq⟩ : ∃ q, q = m.length := ⟨_, rfl⟩
  have HN := Lib.hid hn
  have HQ := Lib.hid hq
  rw [← hn] at hm1 hlc1 ⊢
  rw [← hq] at hm2 ⊢
  clear hr1 hr2 hlc2 hc1 hc2 hn hq
  go_enter Try.func4, Try.ntmps4
  go_wp2_with fail
  refine (awake05 _).mono ?_
  rintro e w1 ⟨rfl, b1⟩
  have B1 := Lib.hid b1
  clear b1
  by_cases h24 : n ≤ 24
  case neg =>
    go_wp2_with fail
    go_ret
    exact ⟨rfl, B1.out⟩
  by_cases k24 : q ≤ 24
  case neg =>
    go_wp2_with fail
    go_ret
    exact ⟨rfl, B1.out⟩
  have hd24 : decide (24 < (n : Int)) = false := decide_eq_false (by omega)
  have he24 : decide (24 < (q : Int)) = false := decide_eq_false (by omega)
  rcases (show chkL l = none ∨ ∃ s, chkL l = some s by cases chkL l; exact .inl rfl; exact .inr ⟨_, rfl⟩) with hck | ⟨s, hck⟩
  · have hsn := safe_no (c := c1) (R1.out.below B1.out) B1.out.size HL1.out hck
    rw [← HN.out] at hsn
    have HSN := Lib.hid hsn
    clear hsn hck
    go_wp2_with fail
    refine HSN.out.mono ?_
    rintro e w2 ⟨rfl, f2⟩
    have B2 := Lib.hid (B1.out.trans (f2.below.mono B1.out.size))
    clear f2
    go_wp2_with fail
    go_ret
    exact ⟨rfl, B2.out⟩
  have hsy := safe_yes (c := c1) (R1.out.below B1.out) B1.out.size HL1.out hck
  rw [← HN.out] at hsy
  have HSY := Lib.hid hsy
  obtain ⟨k, hk⟩ : ∃ k : Nat, tt % ((n : Int) + 1) = (k : Int) := Int.eq_ofNat_of_zero_le (Int.emod_nonneg _ (by omega))
  have hkn : k ≤ n := by have := Int.emod_lt_of_pos tt (show 0 < (n : Int) + 1 by omega); omega
  have hkm : tt.tmod ((n : Int) + 1) = (k : Int) := by rw [Int.tmod_eq_emod_of_nonneg ht0, hk]
  obtain ⟨sk, hsk⟩ := chk_prefix_l hck k (by rw [← HN.out]; exact hkn)
  have HSK := Lib.hid hsk
  have HCK := Lib.hid hck
  have hkl : (l.take k).length = k := by rw [List.length_take, ← HN.out]; omega
  have HKL := Lib.hid hkl
  clear hsy hsk hck hkl
  go_wp2_with fail
  refine HSY.out.mono ?_
  rintro e w2 ⟨rfl, f2⟩
  have B2 := Lib.hid (B1.out.trans (f2.below.mono B1.out.size))
  clear f2 B1 HSY
  go_wp2_with fail
  have hsy2 := safe_yes (A := A1) (c := c1) (B := w.heap.size) (l := l.take k) (w := w2) (by rw [HKL.out]; exact reads_take (R1.out.below B2.out) k (by rw [← HN.out]; exact hkn)) B2.out.size (by rw [HKL.out]; unfold maxLen; omega) HSK.out
  rw [HKL.out] at hsy2
  refine hsy2.mono ?_
  rintro e w3 ⟨rfl, f3⟩
  have B3 := Lib.hid (B2.out.trans (f3.below.mono B2.out.size))
  clear f3 B2 hsy2 hk hkn hkm HSK HKL
  clear w1 w2
  go_wp2_with fail
  go_loopw [7, 9, 44] (fun d s9 i wr => ∃ k : Nat, k ≤ n ∧ i = .int .i64 k ∧ (s9 = undef ∨ ∃ a, s9 = .pointer a) ∧ d = .int .i64 (depF (pF l) k) ∧ RowKit.Hid (∀ j, j < k → plainOp (pF l j)) ∧ RowKit.Hid (Below w.heap.size w wr)) (fun _ _ i _ => n - (intOf i).toNat)
  case atStart => exact ⟨0, Nat.zero_le _, rfl, .inl rfl, rfl, fun j hj => absurd hj (by omega), B3⟩
  case round =>
    clear B3
    obtain ⟨k, hk, rfl, hs9, rfl, HPL, BR⟩ := hrel
    by_cases hkn : k < n
    · obtain ⟨i, hx⟩ : ∃ i, l[k]? = some i := ⟨_, List.getElem?_eq_getElem (by rw [← HN.out]; exact hkn)⟩
      obtain ⟨b, off, hA, hb, p0, p1⟩ := reads_ins (R1.out.below BR.out) hx
      have hri := (fitsB_iff.1 (chkL_some HCK.out).1).2 i (List.mem_of_getElem? hx)
      obtain ⟨r1, r2, _⟩ := right_range hri
      have hpf := pF_of hx
      obtain ⟨o, a⟩ := i
      have hdr := depF_range (pF l) k
      have HDS := Lib.hid (show depF (pF l) (k + 1) = depF (pF l) k + (leavesF o - takesF o) by show depF (pF l) k + (leavesF (pF l k).1 - takesF (pF l k).1) = _; rw [hpf])
      have HPF := Lib.hid hpf
      have hki : (k : Int) < (n : Int) := by omega
      have hbw : b < wr.heap.size := by have := BR.out.size; omega
      simp only at p0 p1 r1 r2
      generalize depF (pF l) k = d at *
      rw [hA]
      clear hx hri hpf hb
      by_cases hj : o = 0 ∨ o = 15 ∨ o = 16
      · rcases hj with rfl | rfl | rfl
        all_goals
          go_wp2_with fail
          go_ret
          exact ⟨rfl, BR.out.alloc BR.out.size _⟩
      · have HP1 : RowKit.Hid (∀ j, j < k + 1 → plainOp (pF l j)) := fun j hjk => by
          by_cases e : j = k
          · subst e; rw [HPF.out]; exact ⟨by show o ≠ 0; omega, by show o ≠ 15; omega, by show o ≠ 16; omega⟩
          · exact HPL.out j (by omega)
        have ho : o = 1 ∨ o = 2 ∨ o = 3 ∨ o = 4 ∨ o = 5 ∨ o = 6 ∨ o = 7 ∨ o = 8 ∨ o = 9 ∨ o = 10 ∨ o = 11 ∨ o = 12 ∨ o = 13 ∨ o = 14 ∨ o = 17 := by omega
        clear hj HPF HPL
        rcases ho with rfl | rfl | rfl | rfl | rfl | rfl | rfl | rfl | rfl | rfl | rfl | rfl | rfl | rfl | rfl
        all_goals
          go_wp2_with fail
          go_roundw
          case rel => exact ⟨k + 1, by omega, by go_num, .inr ⟨_, rfl⟩, (by rw [HDS.out]; first | rfl | (simp [leavesF, takesF]; try omega)), HP1, BR.out.alloc BR.out.size _⟩
          case measure => simp [intOf]; omega
    · obtain rfl : n = k := by omega
      have hdr := depF_range (pF l) n
      obtain ⟨d, hd⟩ : ∃ d, d = depF (pF l) n := ⟨_, rfl⟩
      rw [← hd] at hdr ⊢
      have HD := Lib.hid hd
      clear hd
      have hrs := (chk_range HCK.out)
      have hcy := check_yes (c := c1) (R1.out.below BR.out) BR.out.size HL1.out HCK.out
      rw [← HN.out] at hcy
      have HCY := Lib.hid hcy
      clear hcy
      go_wp2_with fail
      refine HCY.out.mono ?_
      rintro e w4 ⟨ga, rfl, hga, ba, f4⟩
      have B4 := Lib.hid (BR.out.trans (f4.below.mono BR.out.size))
      clear f4 ba hga BR HCY
      have hs4 : w.heap.size ≤ w4.heap.size := B4.out.size
      have BRa := Lib.hid (Blk.new w4 53 (repV ga n s))
      have B5 := Lib.hid (B4.out.alloc B4.out.size (.cells (repV ga n s) 53))
      go_upto_region 30 with fail
      generalize w4.alloc (.cells (repV ga n s) 53) = w5 at *
      have hr4 : w4.heap.size < w5.heap.size := BRa.out.lt
      clear B4
      generalize w4.heap.size = g4 at *
      have hs5 : w.heap.size ≤ w5.heap.size := B5.out.size
      have hD0 : (d != 0) = true ∨ (d != 0) = false := by cases (d != 0); exact .inr rfl; exact .inl rfl
      rcases (show chkL m = none ∨ ∃ t, chkL m = some t by cases chkL m; exact .inl rfl; exact .inr ⟨_, rfl⟩) with hcm | ⟨t, hcm⟩
      · have hcn := check_no (c := c2) (R2.out.below B5.out) B5.out.size HL2.out hcm
        rw [← HQ.out] at hcn
        have HCN := Lib.hid hcn
        clear hcn hcm
        go_wp2_with fail
        refine HCN.out.mono ?_
        rintro e w6 ⟨rfl, f6⟩
        have B6 := Lib.hid (B5.out.trans (f6.below.mono B5.out.size))
        clear f6 HCN B5 BRa
        go_upto_region 31 with fail
        have B7 := Lib.hid (B6.out.alloc B6.out.size (.cells (repC (.slice none 0 0) 0 0 false false) 53))
        generalize w6.alloc (.cells (repC (.slice none 0 0) 0 0 false false) 53) = w7 at *
        have ho := iowns_empty w7
        have hf7 := (Fr.refl w7.heap.size [] w7).alloc (Nat.le_refl _) (.cells #[] 49)
        have B7' := Lib.hid (B7.out.trans (hf7.below.mono B7.out.size))
        have hrl := R1.out.below B7'.out
        rw [← HN.out] at hrl
        have hs7 : w.heap.size ≤ w7.heap.size := B7.out.size
        have hs8 : w7.heap.size < (w7.alloc (.cells #[] 49)).heap.size := by simp
        clear hf7
        rcases hD0 with hd0 | hd0
        all_goals
          go_wp2_with (first
            | (at_builtin; refine wpList_app _ rfl (.tmp 92) (.tmp 93) instrTy rfl w7.heap.size (.slice (some ⟨w7.heap.size, 0, none⟩) 0 0) 0 [] rfl ho w.heap.size A1 n c1 (cellsI l) rfl hrl insC_one (by omega) (by omega) (by simp) ?_; intro A3 c3 w8 hown3 hg3 hat3; rw [Nat.zero_add, List.nil_append] at hown3; rw [Nat.zero_add] at hat3 ⊢; have B8 := Lib.hid (B7'.out.grown hg3 (by omega) (fun q hq => by simp [Value.ownBlock] at hq; omega)); have hrm := R2.out.below B8.out; rw [← HQ.out] at hrm; have hs9 := hg3.size; clear hrl ho hat3)
            | (at_builtin; refine wpList_app _ rfl (.tmp 94) (.tmp 95) instrTy rfl w7.heap.size (.slice A3 n c3) n (cellsI l) rfl hown3 w.heap.size A2 q c2 (cellsI m) rfl hrm insC_one (by omega) (by omega) (by omega) ?_; intro A4 c4 w9 hown4 hg4 hat4; have B9 := Lib.hid (B8.out.grown hg4 (by omega) (fun q hq => by have := (hown3.lt q hq).1; omega)); clear hrm hat4 hg3))
          go_ret
          exact ⟨rfl, B9.out⟩
      · have hcz := check_yes (c := c2) (R2.out.below B5.out) B5.out.size HL2.out hcm
        rw [← HQ.out] at hcz
        have hrt := chk_range hcm
        have HCZ := Lib.hid hcz
        have HCM := Lib.hid hcm
        clear hcz hcm
        go_wp2_with fail
        refine HCZ.out.mono ?_
        rintro e w6 ⟨gb, rfl, _, _, f6⟩
        have B6 := Lib.hid (B5.out.trans (f6.below.mono B5.out.size))
        have BRa6 := Lib.hid (BRa.out.fr f6 BRa.out.lt (by simp))
        clear f6 HCZ B5 BRa
        go_upto_region 31 with fail
        have B7 := Lib.hid (B6.out.alloc B6.out.size (.cells (repV gb q t) 53))
        have BRb7 := Lib.hid (Blk.new w6 53 (repV gb q t))
        have BRa7 := Lib.hid (BRa6.out.alloc (.cells (repV gb q t) 53))
        have h46 : g4 < w6.heap.size := BRa6.out.lt
        generalize w6.alloc (.cells (repV gb q t) 53) = w7 at *
        clear B6 BRa6
        generalize w6.heap.size = g6 at *
        have h67 : g6 < w7.heap.size := BRb7.out.lt
        have ho := iowns_empty w7
        have hf7 := (Fr.refl w7.heap.size [] w7).alloc (Nat.le_refl _) (.cells #[] 49)
        have B7' := Lib.hid (B7.out.trans (hf7.below.mono B7.out.size))
        have F7 := Lib.hid hf7
        have hrl := R1.out.below B7'.out
        rw [← HN.out] at hrl
        have hs7 : w.heap.size ≤ w7.heap.size := B7.out.size
        have hs8 : w7.heap.size < (w7.alloc (.cells #[] 49)).heap.size := by simp
        clear hf7
        go_upto_region 32 with (first
            | (at_builtin; refine wpList_app _ rfl (.tmp 92) (.tmp 93) instrTy rfl w7.heap.size (.slice (some ⟨w7.heap.size, 0, none⟩) 0 0) 0 [] rfl ho w.heap.size A1 n c1 (cellsI l) rfl hrl insC_one (by omega) (by omega) (by simp) ?_; intro A3 c3 w8 hown3 hg3 hat3; rw [Nat.zero_add, List.nil_append] at hown3; rw [Nat.zero_add] at hat3 ⊢; have B8 := Lib.hid (B7'.out.grown hg3 (by omega) (fun q hq => by simp [Value.ownBlock] at hq; omega)); have F8 := Lib.hid (F7.out.grown hg3 (by omega) (fun q hq => .inl (by simp [Value.ownBlock] at hq; omega))); have hrm := R2.out.below B8.out; rw [← HQ.out] at hrm; have hs9 := hg3.size; clear hrl ho hat3)
            | (at_builtin; refine wpList_app _ rfl (.tmp 94) (.tmp 95) instrTy rfl w7.heap.size (.slice A3 n c3) n (cellsI l) rfl hown3 w.heap.size A2 q c2 (cellsI m) rfl hrm insC_one (by omega) (by omega) (by omega) ?_; intro A4 c4 w9 hown4 hg4 hat4; have B9 := Lib.hid (B8.out.grown hg4 (by omega) (fun q hq => by have := (hown3.lt q hq).1; omega)); have F9 := Lib.hid (F8.out.grown hg4 (by omega) (fun q hq => .inl (by have := (hown3.lt q hq).1; omega))); clear hrm hat4 hg3 hg4 hown3))
        have BRa9 := Lib.hid (BRa7.out.fr F9.out BRa7.out.lt (by simp))
        have BRb9 := Lib.hid (BRb7.out.fr F9.out BRb7.out.lt (by simp))
        have x1 := BRa9.out.cell 1
        have x2 := BRa9.out.cell 2
        have y1 := BRb9.out.cell 1
        have y2 := BRb9.out.cell 2
        simp at x1 x2 y1 y2
        obtain ⟨⟨m1, m2⟩, m3, m4⟩ := hrs
        obtain ⟨⟨m5, m6⟩, m7, m8⟩ := hrt
        have HO := Lib.hid hown4
        clear hown4 BRa7 BRb7 B7 B7' F7 F8 B8
        rcases hD0 with hd0 | hd0
        · go_wp2_with fail
          go_ret
          exact ⟨rfl, B9.out⟩
        by_cases hnq : n + q ≤ 24
        case neg =>
          go_wp2_with fail
          go_ret
          exact ⟨rfl, B9.out⟩
        have hdnq : decide (24 < (n : Int) + (q : Int)) = false := decide_eq_false (by omega)
        by_cases hse : s.em + t.em ≤ 4
        case neg =>
          go_wp2_with fail
          go_ret
          exact ⟨rfl, B9.out⟩
        have hdse : decide (4 < s.em + t.em) = false := decide_eq_false (by omega)
        obtain ⟨u, hu, hum, hue⟩ := chk_join_l HCK.out HCM.out (by rw [← HN.out]; exact HPL.out) (by rw [← HN.out, ← HD.out]; simpa using hd0) (by rw [← HN.out, ← HQ.out]; exact hnq) hse
        have hcu := check_yes (A := A4) (c := c4) (B := w9.heap.size) (l := l ++ m) (s := u) (w := w9) (by
          have h := Reads.of_own HO.out
          rw [List.length_append, ← HN.out, ← HQ.out]
          have e : cellsI (l ++ m) = cellsI l ++ cellsI m := by unfold cellsI; rw [List.flatMap_append]
          rw [e]; exact h) (Nat.le_refl _) (by rw [List.length_append, ← HN.out, ← HQ.out]; unfold maxLen; omega) hu
        rw [List.length_append, ← HN.out, ← HQ.out] at hcu
        have HCU := Lib.hid hcu
        have hmx : u.mx = if s.mx < t.mx then t.mx else s.mx := by rw [hum]; split <;> omega
        have HMX := Lib.hid hmx
        have HUE := Lib.hid hue
        clear hcu hu hum hue hmx hnq hse
        go_wp2_with fail
        refine HCU.out.mono ?_
        rintro e w10 ⟨gc, rfl, _, _, f10⟩
        have B10 := Lib.hid (B9.out.trans (f10.below.mono B9.out.size))
        have BRa10 := Lib.hid (BRa9.out.fr f10 BRa9.out.lt (by simp))
        have BRb10 := Lib.hid (BRb9.out.fr f10 BRb9.out.lt (by simp))
        have l1 := BRa10.out.lt
        have l2 := BRb10.out.lt
        clear x1 x2 y1 y2 f10 HCU
        have x1 := BRa10.out.cell 1
        have x2 := BRa10.out.cell 2
        have y1 := BRb10.out.cell 1
        have y2 := BRb10.out.cell 2
        simp at x1 x2 y1 y2
        have hem := HUE.out
        by_cases hlt : s.mx < t.mx
        · have hmx : u.mx = t.mx := by rw [HMX.out, if_pos hlt]
          go_wp2_with fail
          go_ret
          exact ⟨rfl, B10.out.alloc B10.out.size _⟩
        · have hmx : u.mx = s.mx := by rw [HMX.out, if_neg hlt]
          go_wp2_with fail
          go_ret
          exact ⟨rfl, B10.out.alloc B10.out.size _⟩
end Go.Proofs.Ytkgllkoooohikaa
