/- Texts merged into one, for the number of files a claim may have: SameA. -/
import Derived.Test.YtfakgidimekikaaMF
import Derived.Laws.StructEq
namespace Go.Proofs.Ytfakgidimekikaa
open Go.RowKit Go.Fb
theorem ins_ne (a b c d : Int) (w : World) : (binOp .neq 44 (.agg #[.int .i64 a, .int .i64 b]) (.agg #[.int .i64 c, .int .i64 d])).run Try.prog w = .ok (.bool (decide ((a, b) ≠ (c, d)))) w := by
  have h : (Op.equalIn 10000 44 (.agg #[.int .i64 a, .int .i64 b]) (.agg #[.int .i64 c, .int .i64 d])).run Try.prog w = .ok (decide ((a, b) = (c, d))) w := by
    rw [run_equalIn_struct w 9999 44 _ _ (by kernel_rfl) (by kernel_rfl)]
    by_cases e1 : a = c
    · subst e1
      by_cases e2 : b = d
      · subst e2
        simp [Program.fieldsOf, Try.underlying44, Op.eqFields, part, isAgg, run_underlying Try.underlying3, run_equalIn_int w 9998 3 .i64 .i64 _ _ Try.underlying3]
      · have h2 : (b == d) = false := by simpa using e2
        simp [Program.fieldsOf, Try.underlying44, Op.eqFields, part, isAgg, run_underlying Try.underlying3, run_equalIn_int w 9998 3 .i64 .i64 _ _ Try.underlying3, e2]
    · have h1 : (a == c) = false := by simpa using e1
      simp [Program.fieldsOf, Try.underlying44, Op.eqFields, part, isAgg, run_underlying Try.underlying3, run_equalIn_int w 9998 3 .i64 .i64 _ _ Try.underlying3, e1]
  by_cases e : (a, b) = (c, d)
  · rw [decide_eq_true e] at h
    simp [binOp, Op.equal, Op.maxDepth, h, e]
  · rw [decide_eq_false e] at h
    simp only [binOp, Op.equal, Op.maxDepth, Sem.run_bind, h, Result.andThen_ok]
    rw [decide_eq_true e]
    rfl
set_option maxRecDepth 100000 in
set_option maxHeartbeats 1000000 in
theorem iequal_any (A A2 : Option Addr) (c c2 B n n2 : Nat) (l l2 : List Int) (w : World) (hn : n = l.length) (hn2 : n2 = l2.length) (hm : n ≤ 1000000) (hm2 : n2 ≤ 1000000) (hr : Reads w B 1 A n (l.map (Value.int .i64))) (hr2 : Reads w B 1 A2 n2 (l2.map (Value.int .i64))) :
    Calls Try.prog 34 #[.slice A n c, .slice A2 n2 c2] w fun e w' => e = .returned (.bool (decide (l = l2))) ∧ Fr w.heap.size [] w w' := by
  have HR := Lib.hid hr
  have HR2 := Lib.hid hr2
  have HN := Lib.hid hn
  have HN2 := Lib.hid hn2
  obtain ⟨vb, hvb⟩ : ∃ b, b = decide (l = l2) := ⟨_, rfl⟩
  rw [← hvb]
  have HV := Lib.hid hvb
  clear hr hn hr2 hn2 hvb
  by_cases hne : n = n2
  · subst hne
    go_enter Try.func34, Try.ntmps34
    go_wp2_with fail
    go_loopw [13] (fun s wr => ∃ k : Nat, k ≤ n ∧ s = .int .i64 k ∧ RowKit.Hid (∀ j, j < k → l[j]? = l2[j]?) ∧ RowKit.Hid (Fr w.heap.size [] w wr) ∧ RowKit.Hid (∃ d, wr = w.drewN d)) (fun s _ => n - (intOf s).toNat)
    case atStart => exact ⟨0, Nat.zero_le _, rfl, Lib.hid (fun j h => absurd h (Nat.not_lt_zero _)), Lib.hid (Fr.refl _ _ _), Lib.hid ⟨0, rfl⟩⟩
    case round =>
      obtain ⟨k, hk, rfl, HB, HF, HD⟩ := hrel
      by_cases hkn : k < n
      · have hki : (k : Int) < (n : Int) := by omega
        have hk0 : (0 : Int) ≤ (k : Int) := by omega
        obtain ⟨b, off, u, rfl, hb, hu, hc⟩ := HR.out.one hkn
        obtain ⟨b2, off2, u2, rfl, hb2, hu2, hc2⟩ := HR2.out.one hkn
        obtain ⟨x, hx⟩ : ∃ x, l[k]? = some x := ⟨_, List.getElem?_eq_getElem (by rw [← HN.out]; exact hkn)⟩
        obtain ⟨y, hy⟩ : ∃ x, l2[k]? = some x := ⟨_, List.getElem?_eq_getElem (by rw [← HN2.out]; exact hkn)⟩
        rw [List.getElem?_map, hx] at hu
        rw [List.getElem?_map, hy] at hu2
        simp at hu hu2
        subst hu
        subst hu2
        have hc : wr.cell? ⟨b, off + k, none⟩ = some (.int .i64 x) := by obtain ⟨d, hd⟩ := HD.out; rw [hd]; exact hc
        have hc2 : wr.cell? ⟨b2, off2 + k, none⟩ = some (.int .i64 y) := by obtain ⟨d, hd⟩ := HD.out; rw [hd]; exact hc2
        have HX := Lib.hid hx
        have HY := Lib.hid hy
        clear hx hy
        by_cases e : x = y
        · have he : (x != y) = false := by simpa using e
          have HB2 := Lib.hid (show ∀ j, j < k + 1 → l[j]? = l2[j]? from fun j hj => by
            by_cases e2 : j = k
            · subst e2; rw [HX.out, HY.out, e]
            · exact HB.out j (by omega))
          clear e
          go_wp2_with fail
          go_quiet (fail)
          go_wp2_with fail
          go_roundw
          case rel => exact ⟨k + 1, by omega, by go_num, HB2, Lib.hid (HF.out.drewN _), Lib.hid (by obtain ⟨d, hd⟩ := HD.out; rw [hd]; exact ⟨_, World.drewN_drewN _ _ _⟩)⟩
          case measure => simp [intOf]; omega
        · have he : (x != y) = true := by simpa using e
          have hv : vb = false := by
            rw [HV.out]
            refine decide_eq_false fun h => e ?_
            have := HX.out
            rw [h, HY.out] at this
            injection this with this
            exact this.symm
          have H := Lib.hid hv
          clear hv e
          go_wp2_with fail
          go_quiet (fail)
          go_wp2_with fail
          go_ret
          exact ⟨by rw [H.out]; rfl, HF.out.drewN _⟩
      · obtain rfl : k = n := by omega
        have hv : vb = true := by
          rw [HV.out]
          refine decide_eq_true (List.ext_getElem? fun j => ?_)
          by_cases hj : j < k
          · exact HB.out j hj
          · rw [List.getElem?_eq_none (by rw [← HN.out]; omega), List.getElem?_eq_none (by rw [← HN2.out]; omega)]
        have H := Lib.hid hv
        clear hv
        go_wp2_with fail
        go_ret
        exact ⟨by rw [H.out]; rfl, HF.out⟩
  · have hv : vb = false := by
      rw [HV.out]
      refine decide_eq_false fun h => hne ?_
      rw [HN.out, HN2.out, h]
    have H := Lib.hid hv
    have he : ((n : Int) != (n2 : Int)) = true := by simp; omega
    clear hv
    go_enter Try.func34, Try.ntmps34
    go_wp2_with fail
    go_ret
    exact ⟨by rw [H.out]; rfl, Fr.refl _ _ _⟩
set_option maxRecDepth 100000 in
set_option maxHeartbeats 1000000 in
theorem pequal_any (A A2 : Option Addr) (c c2 B n n2 : Nat) (l l2 : List (Int × Int)) (w : World) (hn : n = l.length) (hn2 : n2 = l2.length) (hm : n ≤ 1000000) (hm2 : n2 ≤ 1000000) (hr : Reads w B 2 A n (cellsI l)) (hr2 : Reads w B 2 A2 n2 (cellsI l2)) :
    Calls Try.prog 35 #[.slice A n c, .slice A2 n2 c2] w fun e w' => e = .returned (.bool (decide (l = l2))) ∧ Fr w.heap.size [] w w' := by
  have HR := Lib.hid hr
  have HR2 := Lib.hid hr2
  have HN := Lib.hid hn
  have HN2 := Lib.hid hn2
  obtain ⟨vb, hvb⟩ : ∃ b, b = decide (l = l2) := ⟨_, rfl⟩
  rw [← hvb]
  have HV := Lib.hid hvb
  clear hr hn hr2 hn2 hvb
  by_cases hne : n = n2
  · subst hne
    go_enter Try.func35, Try.ntmps35
    go_wp2_with fail
    go_loopw [13] (fun s wr => ∃ k : Nat, k ≤ n ∧ s = .int .i64 k ∧ RowKit.Hid (∀ j, j < k → l[j]? = l2[j]?) ∧ RowKit.Hid (Fr w.heap.size [] w wr) ∧ RowKit.Hid (∃ d, wr = w.drewN d)) (fun s _ => n - (intOf s).toNat)
    case atStart => exact ⟨0, Nat.zero_le _, rfl, Lib.hid (fun j h => absurd h (Nat.not_lt_zero _)), Lib.hid (Fr.refl _ _ _), Lib.hid ⟨0, rfl⟩⟩
    case round =>
      obtain ⟨k, hk, rfl, HB, HF, HD⟩ := hrel
      by_cases hkn : k < n
      · have hki : (k : Int) < (n : Int) := by omega
        have hk0 : (0 : Int) ≤ (k : Int) := by omega
        obtain ⟨x, hx⟩ : ∃ x, l[k]? = some x := ⟨_, List.getElem?_eq_getElem (by rw [← HN.out]; exact hkn)⟩
        obtain ⟨y, hy⟩ : ∃ x, l2[k]? = some x := ⟨_, List.getElem?_eq_getElem (by rw [← HN2.out]; exact hkn)⟩
        obtain ⟨b, off, rfl, hb, hc⟩ := HR.out.2 (by omega)
        obtain ⟨b2, off2, rfl, hb2, hc2⟩ := HR2.out.2 (by omega)
        obtain ⟨g0, g1⟩ := cellsI_get hx
        obtain ⟨g2, g3⟩ := cellsI_get hy
        have c0 : wr.cell? ⟨b, off + k * 2, none⟩ = some (.int .i64 x.1) := by obtain ⟨d, hd⟩ := HD.out; rw [hd]; exact hc _ _ g0
        have c1 : wr.cell? ⟨b, off + k * 2 + 1, none⟩ = some (.int .i64 x.2) := by obtain ⟨d, hd⟩ := HD.out; rw [hd]; exact hc _ _ g1
        have c2 : wr.cell? ⟨b2, off2 + k * 2, none⟩ = some (.int .i64 y.1) := by obtain ⟨d, hd⟩ := HD.out; rw [hd]; exact hc2 _ _ g2
        have c3 : wr.cell? ⟨b2, off2 + k * 2 + 1, none⟩ = some (.int .i64 y.2) := by obtain ⟨d, hd⟩ := HD.out; rw [hd]; exact hc2 _ _ g3
        clear hc hc2 g0 g1 g2 g3
        obtain ⟨xo, xa⟩ := x
        obtain ⟨yo, ya⟩ := y
        simp only at c0 c1 c2 c3
        have HX := Lib.hid hx
        have HY := Lib.hid hy
        clear hx hy
        by_cases e : (xo, xa) = (yo, ya)
        · have he : ∀ w : World, (binOp .neq 44 (.agg #[.int .i64 xo, .int .i64 xa]) (.agg #[.int .i64 yo, .int .i64 ya])).run Try.prog w = .ok (.bool false) w := by
            intro w
            rw [ins_ne, decide_eq_false (fun h => h e)]
          have HB2 := Lib.hid (show ∀ j, j < k + 1 → l[j]? = l2[j]? from fun j hj => by
            by_cases e2 : j = k
            · subst e2; rw [HX.out, HY.out, e]
            · exact HB.out j (by omega))
          clear e
          go_wp2_with fail
          go_quiet (fail)
          go_wp2_with fail
          go_roundw
          case rel => exact ⟨k + 1, by omega, by go_num, HB2, Lib.hid (HF.out.drewN _), Lib.hid (by obtain ⟨d, hd⟩ := HD.out; rw [hd]; exact ⟨_, World.drewN_drewN _ _ _⟩)⟩
          case measure => simp [intOf]; omega
        · have he : ∀ w : World, (binOp .neq 44 (.agg #[.int .i64 xo, .int .i64 xa]) (.agg #[.int .i64 yo, .int .i64 ya])).run Try.prog w = .ok (.bool true) w := by
            intro w
            rw [ins_ne, decide_eq_true e]
          have hv : vb = false := by
            rw [HV.out]
            refine decide_eq_false fun h => e ?_
            have := HX.out
            rw [h, HY.out] at this
            injection this with this
            exact this.symm
          have H := Lib.hid hv
          clear hv e
          go_wp2_with fail
          go_quiet (fail)
          go_wp2_with fail
          go_ret
          exact ⟨by rw [H.out]; rfl, HF.out.drewN _⟩
      · obtain rfl : k = n := by omega
        have hv : vb = true := by
          rw [HV.out]
          refine decide_eq_true (List.ext_getElem? fun j => ?_)
          by_cases hj : j < k
          · exact HB.out j hj
          · rw [List.getElem?_eq_none (by rw [← HN.out]; omega), List.getElem?_eq_none (by rw [← HN2.out]; omega)]
        have H := Lib.hid hv
        clear hv
        go_wp2_with fail
        go_ret
        exact ⟨by rw [H.out]; rfl, HF.out⟩
  · have hv : vb = false := by
      rw [HV.out]
      refine decide_eq_false fun h => hne ?_
      rw [HN.out, HN2.out, h]
    have H := Lib.hid hv
    have he : ((n : Int) != (n2 : Int)) = true := by simp; omega
    clear hv
    go_enter Try.func35, Try.ntmps35
    go_wp2_with fail
    go_ret
    exact ⟨by rw [H.out]; rfl, Fr.refl _ _ _⟩
set_option maxRecDepth 100000 in
set_option maxHeartbeats 1000000 in
theorem rpsame_any (A A2 : Option Addr) (c c2 B n n2 : Nat) (l l2 : List (Int × Int)) (w : World) (hn : n = l.length) (hn2 : n2 = l2.length) (hm : n ≤ 1000000) (hm2 : n2 ≤ 1000000) (hr : Reads w B 2 A n (cellsI l)) (hr2 : Reads w B 2 A2 n2 (cellsI l2)) :
    Calls Try.prog 29 #[.slice A n c, .slice A2 n2 c2] w fun e w' => e = .returned (.bool (decide (l = l2))) ∧ Fr w.heap.size [] w w' := by
  have HR := Lib.hid hr
  have HR2 := Lib.hid hr2
  have HN := Lib.hid hn
  have HN2 := Lib.hid hn2
  obtain ⟨vb, hvb⟩ : ∃ b, b = decide (l = l2) := ⟨_, rfl⟩
  rw [← hvb]
  have HV := Lib.hid hvb
  clear hr hn hr2 hn2 hvb
  by_cases hne : n = n2
  · subst hne
    go_enter Try.func29, Try.ntmps29
    go_wp2_with fail
    go_loopw [5] (fun s wr => ∃ k : Nat, k ≤ n ∧ s = .int .i64 k ∧ RowKit.Hid (∀ j, j < k → l[j]? = l2[j]?) ∧ RowKit.Hid (Fr w.heap.size [] w wr) ∧ RowKit.Hid (∃ d, wr = w.drewN d)) (fun s _ => n - (intOf s).toNat)
    case atStart => exact ⟨0, Nat.zero_le _, rfl, Lib.hid (fun j h => absurd h (Nat.not_lt_zero _)), Lib.hid (Fr.refl _ _ _), Lib.hid ⟨0, rfl⟩⟩
    case round =>
      obtain ⟨k, hk, rfl, HB, HF, HD⟩ := hrel
      by_cases hkn : k < n
      · have hki : (k : Int) < (n : Int) := by omega
        have hk0 : (0 : Int) ≤ (k : Int) := by omega
        obtain ⟨x, hx⟩ : ∃ x, l[k]? = some x := ⟨_, List.getElem?_eq_getElem (by rw [← HN.out]; exact hkn)⟩
        obtain ⟨y, hy⟩ : ∃ x, l2[k]? = some x := ⟨_, List.getElem?_eq_getElem (by rw [← HN2.out]; exact hkn)⟩
        obtain ⟨b, off, rfl, hb, hc⟩ := HR.out.2 (by omega)
        obtain ⟨b2, off2, rfl, hb2, hc2⟩ := HR2.out.2 (by omega)
        obtain ⟨g0, g1⟩ := cellsI_get hx
        obtain ⟨g2, g3⟩ := cellsI_get hy
        have c0 : wr.cell? ⟨b, off + k * 2, none⟩ = some (.int .i64 x.1) := by obtain ⟨d, hd⟩ := HD.out; rw [hd]; exact hc _ _ g0
        have c1 : wr.cell? ⟨b, off + k * 2 + 1, none⟩ = some (.int .i64 x.2) := by obtain ⟨d, hd⟩ := HD.out; rw [hd]; exact hc _ _ g1
        have c2 : wr.cell? ⟨b2, off2 + k * 2, none⟩ = some (.int .i64 y.1) := by obtain ⟨d, hd⟩ := HD.out; rw [hd]; exact hc2 _ _ g2
        have c3 : wr.cell? ⟨b2, off2 + k * 2 + 1, none⟩ = some (.int .i64 y.2) := by obtain ⟨d, hd⟩ := HD.out; rw [hd]; exact hc2 _ _ g3
        clear hc hc2 g0 g1 g2 g3
        obtain ⟨xo, xa⟩ := x
        obtain ⟨yo, ya⟩ := y
        simp only at c0 c1 c2 c3
        have HX := Lib.hid hx
        have HY := Lib.hid hy
        clear hx hy
        by_cases e : (xo, xa) = (yo, ya)
        · have he : ∀ w : World, (binOp .neq 44 (.agg #[.int .i64 xo, .int .i64 xa]) (.agg #[.int .i64 yo, .int .i64 ya])).run Try.prog w = .ok (.bool false) w := by
            intro w
            rw [ins_ne, decide_eq_false (fun h => h e)]
          have HB2 := Lib.hid (show ∀ j, j < k + 1 → l[j]? = l2[j]? from fun j hj => by
            by_cases e2 : j = k
            · subst e2; rw [HX.out, HY.out, e]
            · exact HB.out j (by omega))
          clear e
          go_wp2_with fail
          go_quiet (fail)
          go_wp2_with fail
          go_roundw
          case rel => exact ⟨k + 1, by omega, by go_num, HB2, Lib.hid (HF.out.drewN _), Lib.hid (by obtain ⟨d, hd⟩ := HD.out; rw [hd]; exact ⟨_, World.drewN_drewN _ _ _⟩)⟩
          case measure => simp [intOf]; omega
        · have he : ∀ w : World, (binOp .neq 44 (.agg #[.int .i64 xo, .int .i64 xa]) (.agg #[.int .i64 yo, .int .i64 ya])).run Try.prog w = .ok (.bool true) w := by
            intro w
            rw [ins_ne, decide_eq_true e]
          have hv : vb = false := by
            rw [HV.out]
            refine decide_eq_false fun h => e ?_
            have := HX.out
            rw [h, HY.out] at this
            injection this with this
            exact this.symm
          have H := Lib.hid hv
          clear hv e
          go_wp2_with fail
          go_quiet (fail)
          go_wp2_with fail
          go_ret
          exact ⟨by rw [H.out]; rfl, HF.out.drewN _⟩
      · obtain rfl : k = n := by omega
        have hv : vb = true := by
          rw [HV.out]
          refine decide_eq_true (List.ext_getElem? fun j => ?_)
          by_cases hj : j < k
          · exact HB.out j hj
          · rw [List.getElem?_eq_none (by rw [← HN.out]; omega), List.getElem?_eq_none (by rw [← HN2.out]; omega)]
        have H := Lib.hid hv
        clear hv
        go_wp2_with fail
        go_ret
        exact ⟨by rw [H.out]; rfl, HF.out⟩
  · have hv : vb = false := by
      rw [HV.out]
      refine decide_eq_false fun h => hne ?_
      rw [HN.out, HN2.out, h]
    have H := Lib.hid hv
    have he : ((n : Int) != (n2 : Int)) = true := by simp; omega
    clear hv
    go_enter Try.func29, Try.ntmps29
    go_wp2_with fail
    go_ret
    exact ⟨by rw [H.out]; rfl, Fr.refl _ _ _⟩
end Go.Proofs.Ytfakgidimekikaa
