/- The law CheckTells: the walk. -/
import Derived.Test.YtndjgjnnoknblaaTellB
import Derived.Test.YtndjgjnnoknblaaChkUse
import Derived.Deep.RegionHeld3
import Derived.Deep.RegionWith
namespace Go.Proofs.Ytndjgjnnoknblaa
open Go.RowKit Go.Fb
theorem uses_eql0 (a b : Bool) (w : World) : (binOp .eql 51 (.agg #[.bool a, .bool b]) (.agg #[.bool false, .bool false])).run Try.prog w = .ok (.bool (!a && !b)) w := by
  cases a <;> cases b <;> kernel_rfl
set_option maxRecDepth 100000 in
theorem passes_yes {A : Option Addr} {c B : Nat} {l : List (Int × Int)} {s : CS} {w : World} (hr : Reads w B 2 A l.length (cellsI l)) (hB : B ≤ w.heap.size) (hn : l.length ≤ maxLen) (h : chkL l = some s) :
    Calls Try.prog 26 #[.slice A l.length c] w fun e w' => e = .returned (.bool (!s.u0 && !s.u1)) ∧ Fr w.heap.size [] w w' := by
  have H := Lib.hid (check_yes (c := c) hr hB hn h)
  clear hr hB hn h
  generalize l.length = n at *
  have hu := uses_eql0 s.u0 s.u1
  go_enter Try.func26, Try.ntmps26
  go_wp2_with fail
  refine H.out.mono ?_
  rintro e w1 ⟨gd, rfl, _, _, f1⟩
  have F1 := Lib.hid f1
  clear f1
  go_wp2_with fail
  go_ret
  exact ⟨rfl, F1.out.alloc F1.out.size _⟩
set_option maxRecDepth 100000 in
theorem passes_no {A : Option Addr} {c B : Nat} {l : List (Int × Int)} {w : World} (hr : Reads w B 2 A l.length (cellsI l)) (hB : B ≤ w.heap.size) (hn : l.length ≤ maxLen) (h : chkL l = none) :
    Calls Try.prog 26 #[.slice A l.length c] w fun e w' => e = .returned (.bool false) ∧ Fr w.heap.size [] w w' := by
  have H := Lib.hid (check_no (c := c) hr hB hn h)
  clear hr hB hn h
  generalize l.length = n at *
  go_enter Try.func26, Try.ntmps26
  go_wp2_with fail
  refine H.out.mono ?_
  rintro e w1 ⟨rfl, f1⟩
  have F1 := Lib.hid f1
  clear f1
  go_wp2_with fail
  go_ret
  exact ⟨rfl, F1.out.alloc F1.out.size _⟩
set_option maxRecDepth 100000 in
set_option maxHeartbeats 4000000 in
theorem walk_CheckTells (A : Option Addr) (c : Nat) (l : List (Int × Int)) (hc : c ≤ maxLen) (hlc : l.length ≤ c) (w : World) (hr : Reads w w.heap.size 2 A l.length (cellsI l)) :
    Calls Try.prog 6 #[.slice A l.length c] w fun e w' => e = .returned (.bool true) ∧ Below w.heap.size w w' := by
  have hlm : l.length ≤ maxLen := Nat.le_trans hlc hc
  have hm := hlm
  unfold maxLen at hm
  have HR := Lib.hid hr
  have HLM := Lib.hid hlm
  have HTL := Lib.hid (fun (w' : World) (h : Reads w' w.heap.size 2 A l.length (cellsI l)) (hB : w.heap.size ≤ w'.heap.size) => tell_any A c l w' (h.more hB) hlm)
  obtain ⟨n, hnl⟩ : ∃ n, n = l.length := ⟨_, rfl⟩
  have HN := Lib.hid hnl
  rw [← hnl] at hm HTL ⊢
  clear hr hlm hlc hc hnl
  go_enter Try.func6, Try.ntmps6
  go_wp2_with fail
  refine (awake05 _).mono ?_
  rintro e w1 ⟨rfl, b1⟩
  have BL1 := Lib.hid b1
  clear b1
  by_cases h60 : n ≤ 60
  case neg =>
    go_wp2_with fail
    go_ret
    exact ⟨rfl, BL1.out⟩
  have hd60 : decide (60 < (n : Int)) = false := decide_eq_false (by omega)
  rcases (show chkL l = none ∨ ∃ s, chkL l = some s by cases chkL l; exact .inl rfl; exact .inr ⟨_, rfl⟩) with hck | ⟨s, hck⟩
  · have HC := Lib.hid (check_no (c := c) (HR.out.below BL1.out) BL1.out.size HLM.out hck)
    have HSF := Lib.hid (fun (wx : World) (h : Below w.heap.size w wx) => safe_no (c := c) (HR.out.below h) h.size HLM.out hck)
    have HPS := Lib.hid (fun (wx : World) (h : Below w.heap.size w wx) => passes_no (c := c) (HR.out.below h) h.size HLM.out hck)
    have HCK := Lib.hid hck
    rw [← HN.out] at HC HSF HPS
    clear hck
    go_wp2_with fail
    refine HC.out.mono ?_
    rintro e w2 ⟨rfl, f2⟩
    have BL2 := Lib.hid ((BL1.out.trans (f2.below.mono BL1.out.size)).alloc (by have := BL1.out.size; have := f2.size; omega) (.cells #[.slice none 0 0, .int .i64 0, .int .i64 0, .bool false, .bool false] 53))
    have BR := Lib.hid (Blk.new w2 53 #[.slice none 0 0, .int .i64 0, .int .i64 0, .bool false, .bool false])
    have HR2 := HR.out.below BL2.out
    rw [← HN.out] at HR2
    have HT2 := Lib.hid (HTL.out _ HR2 BL2.out.size)
    clear f2 HC HTL HR2
    go_wp2_with fail
    refine HT2.out.mono ?_
    rintro e w3 ⟨_, o2, f3⟩
    obtain rfl := o2 HCK.out
    have f4 := f3.alloc f3.size (.cells (knC (.slice none 0 0) 0 0 false false false) 60)
    have BK := Lib.hid (Blk.new w3 60 (knC (.slice none 0 0) 0 0 false false false))
    have BR4 := Lib.hid (BR.out.fr f4 BR.out.lt (by simp))
    have BL4 := Lib.hid (BL2.out.trans (f4.below.mono BL2.out.size))
    clear f3 f4 o2 HT2 BR BL2
    go_upto_region 7 with fail
    generalize w3.alloc (.cells (knC (.slice none 0 0) 0 0 false false false) 60) = w4 at *
    generalize w3.heap.size = gk at *
    generalize w2.heap.size = gr at *
    go_cut [36] (fun s36 wx => s36 = .bool false ∧ RowKit.Hid (Fr w4.heap.size [] w4 wx))
    case first =>
      have INV := Lib.hid ((Fr.refl w4.heap.size [] w4).drew)
      have c5 := BK.out.cell 5
      simp at c5
      first
        | (go_region_with
            (first
              | (go_at_call 22; refine (HSF.out _ (BL4.out.trans (INV.out.below.mono BL4.out.size))).mono ?_; rintro e w' ⟨rfl, hf⟩; have INV := Lib.hid (INV.out.trans (hf.mono INV.out.size (by simp))); have c5 := (BK.out.fr INV.out BK.out.lt (by simp)).cell 5; simp at c5; clear hf)
              | (go_at_call 26; refine (HPS.out _ (BL4.out.trans (INV.out.below.mono BL4.out.size))).mono ?_; rintro e w' ⟨rfl, hf⟩; have INV := Lib.hid (INV.out.trans (hf.mono INV.out.size (by simp))); have c5 := (BK.out.fr INV.out BK.out.lt (by simp)).cell 5; simp at c5; clear hf)))
        | fail
      all_goals
        go_wp2_with fail
        go_meet
        exact ⟨rfl, INV⟩
    case rest =>
      obtain ⟨rfl, FX⟩ := hcut
      have k5 := (BK.out.fr FX.out BK.out.lt (by simp)).cell 5
      have r0 := (BR4.out.fr FX.out BR4.out.lt (by simp)).cell 0
      have r1 := (BR4.out.fr FX.out BR4.out.lt (by simp)).cell 1
      have r2 := (BR4.out.fr FX.out BR4.out.lt (by simp)).cell 2
      have r3 := (BR4.out.fr FX.out BR4.out.lt (by simp)).cell 3
      have r4 := (BR4.out.fr FX.out BR4.out.lt (by simp)).cell 4
      simp at k5 r0 r1 r2 r3 r4
      have hu := uses_eql0 false false
      go_wp2_with fail
      go_ret
      exact ⟨rfl, BL4.out.trans (FX.out.below.mono BL4.out.size)⟩
  · have HC := Lib.hid (check_yes (c := c) (HR.out.below BL1.out) BL1.out.size HLM.out hck)
    have HSF := Lib.hid (fun (wx : World) (h : Below w.heap.size w wx) => safe_yes (c := c) (HR.out.below h) h.size HLM.out hck)
    have HPS := Lib.hid (fun (wx : World) (h : Below w.heap.size w wx) => passes_yes (c := c) (HR.out.below h) h.size HLM.out hck)
    have HCK := Lib.hid hck
    rw [← HN.out] at HC HSF HPS
    clear hck
    go_wp2_with fail
    refine HC.out.mono ?_
    rintro e w2 ⟨gd, rfl, hgd, bd, f2⟩
    have BL2 := Lib.hid ((BL1.out.trans (f2.below.mono BL1.out.size)).alloc (by have := BL1.out.size; have := f2.size; omega) (.cells (repV gd n s) 53))
    have BR := Lib.hid (Blk.new w2 53 (repV gd n s))
    have BD := Lib.hid (bd.alloc (.cells (repV gd n s) 53))
    have HR2 := HR.out.below BL2.out
    rw [← HN.out] at HR2
    have HT2 := Lib.hid (HTL.out _ HR2 BL2.out.size)
    clear f2 HC HTL HR2 bd hgd
    go_wp2_with fail
    refine HT2.out.mono ?_
    rintro e w3 ⟨o1, _, f3⟩
    obtain ⟨Ak, ck, D, rfl, hownD, hDD⟩ := o1 s HCK.out
    rw [← HN.out] at hownD hDD ⊢
    have f4 := f3.alloc f3.size (.cells (knC (.slice Ak n ck) s.mx s.em s.u0 s.u1 true) 60)
    have BK := Lib.hid (Blk.new w3 60 (knC (.slice Ak n ck) s.mx s.em s.u0 s.u1 true))
    have BR4 := Lib.hid (BR.out.fr f4 BR.out.lt (by simp))
    have BD4 := Lib.hid (BD.out.fr f4 BD.out.lt (by simp))
    have BL4 := Lib.hid (BL2.out.trans (f4.below.mono BL2.out.size))
    have HDR := Lib.hid (Reads.of_own (hownD.alloc (.cells (knC (.slice Ak n ck) s.mx s.em s.u0 s.u1 true) 60)))
    have HDD := Lib.hid hDD
    clear f3 f4 o1 HT2 BR BL2 BD hownD hDD
    go_upto_region 7 with fail
    generalize w3.alloc (.cells (knC (.slice Ak n ck) s.mx s.em s.u0 s.u1 true) 60) = w4 at *
    generalize w3.heap.size = gk at *
    generalize w2.heap.size = gr at *
    go_cut [36] (fun s36 wx => s36 = .bool false ∧ RowKit.Hid (Fr w4.heap.size [] w4 wx))
    case first =>
      have INV := Lib.hid ((Fr.refl w4.heap.size [] w4).drew)
      have hu := uses_eql0 s.u0 s.u1
      have hbb : ((!s.u0 && !s.u1) != (!s.u0 && !s.u1)) = false := by simp
      go_region_held3 (fun wx => wx.cell? ⟨gk, 3, none⟩ = some (.bool s.u0) ∧ wx.cell? ⟨gk, 4, none⟩ = some (.bool s.u1) ∧ wx.cell? ⟨gk, 5, none⟩ = some (.bool true)) (exact ⟨(BK.out.fr INV.out BK.out.lt (by simp)).cell 3, (BK.out.fr INV.out BK.out.lt (by simp)).cell 4, (BK.out.fr INV.out BK.out.lt (by simp)).cell 5⟩)
        (first
          | (go_at_call 22; refine (HSF.out _ (BL4.out.trans (INV.out.below.mono BL4.out.size))).mono ?_; rintro e w' ⟨rfl, hf⟩; have INV := Lib.hid (INV.out.trans (hf.mono INV.out.size (by simp))); clear hf)
          | (go_at_call 26; refine (HPS.out _ (BL4.out.trans (INV.out.below.mono BL4.out.size))).mono ?_; rintro e w' ⟨rfl, hf⟩; have INV := Lib.hid (INV.out.trans (hf.mono INV.out.size (by simp))); clear hf))
      all_goals
        go_wp2_with fail
        go_meet
        exact ⟨rfl, INV⟩
    case rest =>
      obtain ⟨rfl, FX⟩ := hcut
      have BK5 := Lib.hid (BK.out.fr FX.out BK.out.lt (by simp))
      have BR5 := Lib.hid (BR4.out.fr FX.out BR4.out.lt (by simp))
      have BD5 := Lib.hid (BD4.out.fr FX.out BD4.out.lt (by simp))
      have HDR5 := Lib.hid (HDR.out.fr FX.out (Nat.le_refl _) (by simp))
      have BL5 := Lib.hid (BL4.out.trans (FX.out.below.mono BL4.out.size))
      clear BK BR4 BD4 HDR BL4 FX HSF HPS
      have k0 := BK5.out.cell 0
      have k1 := BK5.out.cell 1
      have k2 := BK5.out.cell 2
      have k3 := BK5.out.cell 3
      have k4 := BK5.out.cell 4
      have k5 := BK5.out.cell 5
      have r0 := BR5.out.cell 0
      have r1 := BR5.out.cell 1
      have r2 := BR5.out.cell 2
      have r3 := BR5.out.cell 3
      have r4 := BR5.out.cell 4
      simp at k0 k1 k2 k3 k4 k5 r0 r1 r2 r3 r4
      have hu := uses_neq s.u0 s.u1
      go_upto_region 13 with fail
      go_wp2_with fail
      go_loopw [99] (fun i wr => ∃ j p : Nat, j ≤ n ∧ i = .int .i64 j ∧ wr = wc.drewN p) (fun i _ => n - (intOf i).toNat)
      case atStart => exact ⟨0, 0, by omega, rfl, rfl⟩
      case round =>
        obtain ⟨j, p, hj, rfl, rfl⟩ := hrel
        by_cases hjn : j < n
        · have hji : (j : Int) < (n : Int) := by omega
          have x2 := (BD5.out.cell j).trans (intsA_get _ hjn)
          obtain ⟨b, off, u, rfl, hb, hu2, x3⟩ := HDR5.out.one hjn
          rw [intsL_get _ hjn] at hu2
          injection hu2 with hu2
          subst hu2
          rw [HDD.out j hjn] at x3
          have hcmp : (s.D j != s.D j) = false := by simp
          go_wp2_with fail
          go_quiet (fail)
          go_wp2_with fail
          go_roundw
          case rel => exact ⟨j + 1, p + nq, by omega, by go_num, by first | rfl | rw [World.drewN_drewN]⟩
          case measure => simp [intOf]; omega
        · obtain rfl : n = j := by omega
          go_wp2_with fail
          go_ret
          exact ⟨rfl, BL5.out.drewN p⟩
end Go.Proofs.Ytndjgjnnoknblaa
