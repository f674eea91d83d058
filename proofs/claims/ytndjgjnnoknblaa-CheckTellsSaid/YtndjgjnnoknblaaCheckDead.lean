/- forebaylaw05.CheckDead. -/
import Derived.Test.YtndjgjnnoknblaaChkUse
import Derived.ChangeKeysEq
import Derived.Deep.DeepCutAuto
namespace Go.Proofs.Ytndjgjnnoknblaa
open Go.RowKit Go.Fb
theorem chk_dead_l {l : List (Int × Int)} {s : CS} {k : Nat} {i : Int × Int} (h : chkL l = some s) (hd : s.D k = -1) (hi : rightB i = true) : chkL (l.set k i) = some s := by
  unfold chkL at h ⊢
  by_cases hf : fitsB l = true
  · rw [if_pos hf] at h
    have hf2 : fitsB (l.set k i) = true := by
      unfold fitsB at hf ⊢
      rw [Bool.and_eq_true, List.all_eq_true] at hf ⊢
      refine ⟨by rw [List.length_set]; exact hf.1, fun x hx => ?_⟩
      rcases List.mem_or_eq_of_mem_set hx with hx | rfl
      · exact hf.2 x hx
      · exact hi
    rw [if_pos hf2, List.length_set]
    refine check_dead (k := k) (fun j hj => ?_) (Nat.le_refl _) h hd
    unfold pF
    rw [List.getD_eq_getElem?_getD, List.getD_eq_getElem?_getD, List.getElem?_set_ne (fun e => hj e.symm)]
  · rw [if_neg hf] at h; cases h
theorem cellsI_set {l : List (Int × Int)} {k : Nat} (hk : k < l.length) (i : Int × Int) : cellsI (l.set k i) = ((cellsI l).set (k * 2) (.int .i64 i.1)).set (k * 2 + 1) (.int .i64 i.2) := by
  induction l generalizing k with
  | nil => simp at hk
  | cons x l ih =>
    cases k with
    | zero => rfl
    | succ k =>
      have e : ∀ y : Int × Int, ∀ m : List (Int × Int), cellsI (y :: m) = .int .i64 y.1 :: .int .i64 y.2 :: cellsI m := fun _ _ => rfl
      rw [List.set_cons_succ, e, e, ih (by simpa using hk), show (k + 1) * 2 = k * 2 + 1 + 1 by omega]
      rfl
theorem ownsRow_put {w : World} {base e n g c size : Nat} {xs : List Value} (h : w.ownsRow base e size (.slice (some ⟨g, 0, none⟩) n c) n xs) (k : Nat) (u : Value) :
    (w.setCell ⟨g, k, none⟩ u).ownsRow base e size (.slice (some ⟨g, 0, none⟩) n c) n (xs.set k u) := by
  obtain ⟨hl, hc⟩ := h
  refine ⟨by rw [List.length_set]; exact hl, .inr ?_⟩
  rcases hc with ⟨hn, _⟩ | ⟨g', cap, cur, hv, hb, hg, h1, h2, h3, h4⟩
  · cases hn
  · have hv' := hv
    injection hv with hv1 hv2 hv3
    injection hv1 with hv1
    injection hv1 with hv1
    subst hv1
    refine ⟨g, cap, cur.setIfInBounds k u, hv', hb, ?_, h1, h2, by rw [Array.size_setIfInBounds]; exact h3, ?_⟩
    · simp [World.setCell, Array.getElem?_modify, hg]
    · rw [Array.toList_setIfInBounds, List.take_set, h4]
theorem own_frozen {w : World} {base e n g c size : Nat} {xs : List Value} (h : w.ownsRow base e size (.slice (some ⟨g, 0, none⟩) n c) n xs) (k : Nat) : w.frozen? ⟨g, k, none⟩ = false := by
  rcases h.2 with ⟨hn, _⟩ | ⟨g', cap, cur, hv, hb, hg, _⟩
  · cases hn
  · injection hv with hv
    injection hv with hv
    injection hv with hv
    subst hv
    simp [World.frozen?, hg]
theorem instrTy : SliceTy Try.prog 46 49 2 16 := SliceTy.mk' (z := .agg #[.int .i64 0, .int .i64 0]) Try.underlying46 (by kernel_rfl) rfl (by omega)
theorem iowns_empty (w : World) : (w.alloc (.cells #[] 49)).ownsRow w.heap.size 49 2 (.slice (some ⟨w.heap.size, 0, none⟩) 0 0) 0 [] := by
  refine ⟨rfl, .inr ⟨w.heap.size, 0, #[], rfl, Nat.le_refl _, Blk.new _ _ _, ?_⟩⟩
  simp
theorem insC_one {l : List (Int × Int)} : ∀ u ∈ cellsI l, u.oneCell' = true := by
  intro u hu
  unfold cellsI at hu
  obtain ⟨x, _, hx⟩ := List.mem_flatMap.1 hu
  simp [insC] at hx
  rcases hx with rfl | rfl <;> rfl
theorem eqItems_bool {e : TypeId} {P : Program} (he : P.underlying e = some .bool) (hc : P.cellsOf e = 1) (d : Nat) (xs : Array Value) (f : Nat → Bool) (w : World) :
    ∀ is : List Nat, (∀ j ∈ is, xs[j]? = some (.bool (f j))) → (Op.eqItems (d + 1) e (P.cellsOf e) xs xs is).run P w = .ok true w
  | [], _ => by simp [Op.eqItems]
  | i :: is, h => by
    have h1 := h i (by simp)
    have ih := eqItems_bool he hc d xs f w is (fun j hj => h j (by simp [hj]))
    have p1 : (part e xs (i * P.cellsOf e)).run P w = .ok (.bool (f i)) w := by simp [part, isAgg, run_underlying he, hc, h1]
    have e1 : (Op.equalIn (d + 1) e (.bool (f i)) (.bool (f i))).run P w = .ok true w := by
      unfold Op.equalIn
      simp [run_underlying he]
    simp only [Op.eqItems, Sem.run_bind, p1, Result.andThen_ok, e1]
    simp [ih]
theorem uses_neq (a b : Bool) (w : World) : (binOp .neq 51 (.agg #[.bool a, .bool b]) (.agg #[.bool a, .bool b])).run Try.prog w = .ok (.bool false) w := by
  have info : (Try.prog.info? 4).map (fun i => (i.zero, i.size, i.bytes)) = some (some (.bool false), 1, 1) := by kernel_rfl
  obtain ⟨i, hi, _⟩ := info_parts info
  have h : (Op.equalIn 10000 51 (.agg #[.bool a, .bool b]) (.agg #[.bool a, .bool b])).run Try.prog w = .ok true w := by
    rw [run_equalIn_array w 9999 _ _ Try.underlying51 hi]
    exact eqItems_bool Try.underlying4 (by kernel_rfl) 9998 _ (fun j => if j = 0 then a else b) w _ (fun j hj => by
      have hj2 : j < 2 := by simpa using hj
      match j, hj2 with
      | 0, _ | 1, _ => rfl)
  simp only [binOp, Op.equal, Op.maxDepth, Sem.run_bind, h, Result.andThen_ok]
  rfl
set_option maxRecDepth 100000 in
set_option maxHeartbeats 4000000 in
theorem walk_CheckDead (A : Option Addr) (c : Nat) (l : List (Int × Int)) (hc : c ≤ maxLen) (hlc : l.length ≤ c) (i : Int × Int) (tt : Int) (htt : 0 ≤ tt ∧ tt ≤ 255) (w : World) (hr : Reads w w.heap.size 2 A l.length (cellsI l)) :
    Calls Try.prog 5 #[.slice A l.length c, .agg #[.int .i64 i.1, .int .i64 i.2], .int .u8 tt] w fun e w' => e = .returned (.bool true) ∧ Below w.heap.size w w' := by
  have hlm : l.length ≤ maxLen := Nat.le_trans hlc hc
  have hm := hlm
  unfold maxLen at hm
  have HR := Lib.hid hr
  have HLM := Lib.hid hlm
  have HRI := Lib.hid (cright_any i)
  obtain ⟨ht0, ht1⟩ := htt
  obtain ⟨n, hnl⟩ : ∃ n, n = l.length := ⟨_, rfl⟩
  have HN := Lib.hid hnl
  rw [← hnl] at hm ⊢
  clear hr hlm hlc hc hnl
  go_enter Try.func5, Try.ntmps5
  go_wp2_with fail
  have hb := Blk.new w 49 #[.int .i64 i.1, .int .i64 i.2]
  have b0 := (Below.refl _ w).alloc (Nat.le_refl _) (.cells #[.int .i64 i.1, .int .i64 i.2] 49)
  generalize w.alloc _ = w1 at *
  refine (awake05 _).mono ?_
  rintro e w2 ⟨rfl, b1⟩
  have B2 := Lib.hid (hb.below b1 hb.lt)
  have BL2 := Lib.hid (b0.trans (b1.mono b0.size))
  clear hb b0 b1
  by_cases h24 : n ≤ 24
  case neg =>
    go_wp2_with fail
    go_ret
    exact ⟨rfl, BL2.out⟩
  by_cases h0 : n = 0
  · have hn0 : ((n : Int) == 0) = true := by simp [h0]
    clear h0
    go_wp2_with fail
    go_ret
    exact ⟨rfl, BL2.out⟩
  have hn0 : ((n : Int) == 0) = false := by simp; omega
  have hd24 : decide (24 < (n : Int)) = false := decide_eq_false (by omega)
  have q0 := B2.out.cell 0
  have q1 := B2.out.cell 1
  simp at q0 q1
  cases hri : rightB i
  case false =>
    rw [hri] at HRI
    clear hri
    go_wp2_with fail
    refine (HRI.out _).mono ?_
    rintro e w3 ⟨rfl, f3⟩
    have BL3 := Lib.hid (BL2.out.trans (f3.below.mono BL2.out.size))
    clear f3
    go_wp2_with fail
    go_ret
    exact ⟨rfl, BL3.out⟩
  case true =>
    rw [hri] at HRI
    have HRR := Lib.hid hri
    clear hri
    go_wp2_with fail
    refine (HRI.out _).mono ?_
    rintro e w3 ⟨rfl, f3⟩
    have B3 := Lib.hid (B2.out.fr f3 B2.out.lt (by simp))
    have BL3 := Lib.hid (BL2.out.trans (f3.below.mono BL2.out.size))
    have HR3 := Lib.hid (HR.out.below BL3.out)
    clear f3 B2 BL2 q0 q1
    obtain ⟨k, hk⟩ : ∃ k : Nat, tt % (n : Int) = (k : Int) := Int.eq_ofNat_of_zero_le (Int.emod_nonneg _ (by omega))
    have hkn : k < n := by have := Int.emod_lt_of_pos tt (show 0 < (n : Int) by omega); omega
    have hkm : tt.tmod (n : Int) = (k : Int) := by rw [Int.tmod_eq_emod_of_nonneg ht0, hk]
    rcases (show chkL l = none ∨ ∃ s, chkL l = some s by cases chkL l; exact .inl rfl; exact .inr ⟨_, rfl⟩) with hck | ⟨s, hck⟩
    · have HCK := Lib.hid (fun (w' : World) (h : Reads w' w.heap.size 2 A l.length (cellsI l)) (hB : w.heap.size ≤ w'.heap.size) => check_no (c := c) h hB HLM.out hck)
      rw [← HN.out] at HCK HR3
      clear hck
      go_wp2_with fail
      refine (HCK.out _ HR3.out BL3.out.size).mono ?_
      rintro e w4 ⟨rfl, f4⟩
      have BL4 := Lib.hid (BL3.out.trans (f4.below.mono BL3.out.size))
      clear f4
      go_wp2_with fail
      go_ret
      exact ⟨rfl, BL4.out.alloc BL4.out.size _⟩
    have HCK := Lib.hid (fun (w' : World) (h : Reads w' w.heap.size 2 A l.length (cellsI l)) (hB : w.heap.size ≤ w'.heap.size) => check_yes (c := c) h hB HLM.out hck)
    rw [← HN.out] at HCK HR3
    have HC2 := Lib.hid hck
    clear hck
    go_wp2_with fail
    refine (HCK.out _ HR3.out BL3.out.size).mono ?_
    rintro e w4 ⟨gd, rfl, hgd, bd, f4⟩
    have B4 := Lib.hid (B3.out.fr f4 B3.out.lt (by simp))
    have BL4 := Lib.hid (BL3.out.trans (f4.below.mono BL3.out.size))
    have HD4 := Lib.hid bd
    have cd := (bd.cell k).trans (intsA_get _ hkn)
    have hgd4 := bd.lt
    have hki : (k : Int) < (n : Int) := by omega
    clear f4 bd HCK B3 BL3 HR3
    by_cases hdk : s.D k = -1
    case neg =>
      have hb1 : (s.D k != -1) = true := by simpa using hdk
      clear hdk
      go_wp2_with fail
      go_ret
      exact ⟨rfl, BL4.out.alloc BL4.out.size _⟩
    rw [hdk] at cd
    have HC3 := Lib.hid (chk_dead_l HC2.out hdk HRR.out)
    clear hdk
    go_upto_region 9 with fail
    have BR5 := Lib.hid (Blk.new w4 53 (repV gd n s))
    have f5 := (Fr.refl w4.heap.size [] w4).alloc (Nat.le_refl _) (.cells (repV gd n s) 53)
    have B5 := Lib.hid (B4.out.fr f5 B4.out.lt (by simp))
    have BL5 := Lib.hid (BL4.out.trans (f5.below.mono BL4.out.size))
    have HD5 := Lib.hid (HD4.out.fr f5 HD4.out.lt (by simp))
    have hw4 : w.heap.size < w4.heap.size := B4.out.lt
    have hne5 : (w4.alloc (.cells (repV gd n s) 53)).heap.size = w4.heap.size + 1 := by simp
    generalize w4.alloc (.cells (repV gd n s) 53) = w5 at *
    clear f5 B4 BL4 HD4 cd hgd
    generalize w4.heap.size = g7 at *
    have hg7 : g7 < w5.heap.size := by omega
    clear hne5
    have ho := iowns_empty w5
    have hf6 := (Fr.refl w5.heap.size [] w5).alloc (Nat.le_refl _) (.cells #[] 49)
    have hr6 := (HR.out.below BL5.out).fr hf6 BL5.out.size (by simp)
    rw [← HN.out] at hr6
    have hs6 : w5.heap.size < (w5.alloc (.cells #[] 49)).heap.size := by simp
    have hws : w.heap.size ≤ w5.heap.size := BL5.out.size
    go_upto_region 10 with (at_builtin; refine wpList_app _ rfl (.tmp 49) (.tmp 50) instrTy rfl w5.heap.size (.slice (some ⟨w5.heap.size, 0, none⟩) 0 0) 0 [] rfl ho w.heap.size A n c (cellsI l) rfl hr6 insC_one (by omega) (by omega) (by simp) ?_; intro A2 c2 w6 hown2 hg2 hat2; rw [Nat.zero_add] at hown2 hat2 ⊢)
    rw [List.nil_append] at hown2
    obtain ⟨g, cap, hv, hbg, hg6⟩ := hown2.form (by omega)
    have hA : A2 = some ⟨g, 0, none⟩ := by injection hv
    subst hA
    have f6 : Fr w5.heap.size [] w5 w6 := hf6.grown hg2 (by simp) (fun q hq => .inl (by simp [Value.ownBlock] at hq; omega))
    have B6 := Lib.hid (B5.out.fr f6 B5.out.lt (by simp))
    have BR6 := Lib.hid (BR5.out.fr f6 BR5.out.lt (by simp))
    have HD6 := Lib.hid (HD5.out.fr f6 HD5.out.lt (by simp))
    have BL6 := Lib.hid (BL5.out.trans (f6.below.mono BL5.out.size))
    have HO := Lib.hid hown2
    have hkl : k < l.length := by rw [← HN.out]; exact hkn
    obtain ⟨b', off', hb', _, hcc⟩ := (Reads.of_own hown2).2 (by omega)
    injection hb' with hb'
    injection hb' with hb1 hb2
    subst hb1 hb2
    obtain ⟨y0, y1⟩ := cellsI_get (List.getElem?_eq_getElem hkl)
    have z0 := hcc _ _ y0
    have z1 := hcc _ _ y1
    rw [Nat.zero_add] at z0 z1
    have v0 := own_frozen hown2 (k * 2)
    have v1 := own_frozen hown2 (k * 2 + 1)
    have q0 := B6.out.cell 0
    have q1 := B6.out.cell 1
    simp at q0 q1
    clear hv hf6 hr6 ho hg2 hat2 hown2 y0 y1 hcc f6 B5 BR5 HD5 BL5 hs6
    go_upto_region 11 with fail
    have HO7 : RowKit.Hid (((w6.setCell ⟨g, k * 2, none⟩ (.int .i64 i.1)).setCell ⟨g, k * 2 + 1, none⟩ (.int .i64 i.2)).ownsRow w5.heap.size 49 2 (.slice (some ⟨g, 0, none⟩) n c2) n (cellsI (l.set k i))) := by
      rw [cellsI_set hkl i]
      exact ownsRow_put (ownsRow_put HO.out (k * 2) (.int .i64 i.1)) (k * 2 + 1) (.int .i64 i.2)
    have BR7 := Lib.hid ((BR6.out.far (p := ⟨g, k * 2, none⟩) (by show g7 ≠ g; omega) (.int .i64 i.1)).far (p := ⟨g, k * 2 + 1, none⟩) (by show g7 ≠ g; omega) (.int .i64 i.2))
    have HD7 := Lib.hid ((HD6.out.far (p := ⟨g, k * 2, none⟩) (by show gd ≠ g; omega) (.int .i64 i.1)).far (p := ⟨g, k * 2 + 1, none⟩) (by show gd ≠ g; omega) (.int .i64 i.2))
    have BL7 := Lib.hid ((BL6.out.setCell (p := ⟨g, k * 2, none⟩) (by show w.heap.size ≤ g; omega) (.int .i64 i.1)).setCell (p := ⟨g, k * 2 + 1, none⟩) (by show w.heap.size ≤ g; omega) (.int .i64 i.2))
    generalize (w6.setCell ⟨g, k * 2, none⟩ (.int .i64 i.1)).setCell ⟨g, k * 2 + 1, none⟩ (.int .i64 i.2) = w7 at *
    clear B6 BR6 HD6 BL6 HO z0 z1 v0 v1 q0 q1
    have HLN := Lib.hid (show (l.set k i).length = n by rw [List.length_set]; exact HN.out.symm)
    have HCK := check_yes (A := some ⟨g, 0, none⟩) (c := c2) (B := w7.heap.size) (l := l.set k i) (s := s) (w := w7) (by rw [HLN.out]; exact Reads.of_own HO7.out) (Nat.le_refl _) (by rw [List.length_set]; exact HLM.out) HC3.out
    rw [HLN.out] at HCK
    go_wp2_with fail
    refine HCK.mono ?_
    rintro e w8 ⟨ge, rfl, hge, be, f8⟩
    have BR8 := Lib.hid (BR7.out.fr f8 BR7.out.lt (by simp))
    have HD8 := Lib.hid (HD7.out.fr f8 HD7.out.lt (by simp))
    have BL8 := Lib.hid (BL7.out.trans (f8.below.mono BL7.out.size))
    have HE8 := Lib.hid be
    have hlt7 := BR8.out.lt
    have hltd := HD8.out.lt
    have hlte := be.lt
    clear be f8 HCK BR7 HD7 BL7 HO7 hge
    have r0 := BR8.out.cell 0
    have r1 := BR8.out.cell 1
    have r2 := BR8.out.cell 2
    have r3 := BR8.out.cell 3
    have r4 := BR8.out.cell 4
    simp at r0 r1 r2 r3 r4
    have huq := uses_neq s.u0 s.u1
    go_wp2_with fail
    have B9 := Lib.hid (Blk.new w8 53 (repV ge n s))
    have BR9 := Lib.hid (BR8.out.alloc (.cells (repV ge n s) 53))
    have HD9 := Lib.hid (HD8.out.alloc (.cells (repV ge n s) 53))
    have HE9 := Lib.hid (HE8.out.alloc (.cells (repV ge n s) 53))
    have BL9 := Lib.hid (BL8.out.alloc BL8.out.size (.cells (repV ge n s) 53))
    clear r0 r1 r2 r3 r4 BR8 HD8 HE8 BL8 huq
    generalize w8.alloc (.cells (repV ge n s) 53) = w9 at *
    generalize w8.heap.size = g9 at *
    go_loopw [87] (fun i wr => ∃ j m : Nat, j ≤ n ∧ i = .int .i64 j ∧ wr = w9.drewN m) (fun i _ => n - (intOf i).toNat)
    case atStart => exact ⟨0, 0, by omega, rfl, rfl⟩
    case round =>
      obtain ⟨j, m, hj, rfl, rfl⟩ := hrel
      by_cases hjn : j < n
      · have hji : (j : Int) < (n : Int) := by omega
        have x0 := BR9.out.cell 0
        have x1 := B9.out.cell 0
        have x2 := (HD9.out.cell j).trans (intsA_get _ hjn)
        have x3 := (HE9.out.cell j).trans (intsA_get _ hjn)
        simp at x0 x1
        have hcmp : (s.D j != s.D j) = false := by simp
        go_wp2_with fail
        go_quiet (fail)
        go_wp2_with fail
        go_roundw
        case rel => exact ⟨j + 1, m + nq, by omega, by go_num, by first | rfl | rw [World.drewN_drewN]⟩
        case measure => simp [intOf]; omega
      · obtain rfl : n = j := by omega
        go_wp2_with fail
        go_ret
        exact ⟨rfl, BL9.out.drewN m⟩
end Go.Proofs.Ytndjgjnnoknblaa
