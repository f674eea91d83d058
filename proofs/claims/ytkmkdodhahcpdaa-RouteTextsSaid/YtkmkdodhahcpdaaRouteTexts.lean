/- forebaylaw09.RouteTexts. -/
import Derived.Test.YtkmkdodhahcpdaaRouteD
import Derived.Test.YtkmkdodhahcpdaaArrEq
import Derived.Deep.DeepCutAuto
namespace Go.Proofs.Ytkmkdodhahcpdaa
open Go.RowKit Go.Fb

theorem inTo_congr {p : Int} {r r' : Nat → Int} {n : Nat} (h : ∀ k, k < n → r k = r' k) : inTo p r n = inTo p r' n := by
  induction n with
  | zero => rfl
  | succ n ih => rw [inTo_succ, inTo_succ, ih (fun k hk => h k (by omega)), h n (by omega)]
theorem right8_congr {p : Int} {r r' : Nat → Int} (h : ∀ k, k < 8 → r k = r' k) : right8 p r = right8 p r' := by
  unfold right8; rw [inTo_congr h]
theorem digits_congr {r r' : Nat → Int} {n : Nat} (h : ∀ k, k < n → r k = r' k) : digits r n = digits r' n := by
  induction n with
  | zero => rfl
  | succ n ih => rw [digits_succ, digits_succ, ih (fun k hk => h k (by omega)), h n (by omega)]
theorem digits_range {r : Nat → Int} (h : right8 3 r = true) : ∀ x ∈ digits r 8, 0 ≤ x ∧ x < 256 := by
  intro x hx
  unfold digits at hx
  obtain ⟨k, hk, rfl⟩ := List.mem_map.1 hx
  have := right8_get h (show k < 8 by simpa using hk)
  omega
theorem digits_get (r : Nat → Int) {n k : Nat} (h : k < n) : (digits r n)[k]? = some (48 + r k) := by
  unfold digits
  rw [List.getElem?_map, List.getElem?_range h]; rfl
theorem parseR_text {r : Nat → Int} (h : right8 3 r = true) {k : Nat} (hk : k < 8) : parseR (strOfNums (digits r 8)) k = r k := by
  unfold parseR
  rw [bl_strOfNums (digits_range h), List.getD_eq_getElem?_getD, digits_get r hk]
  simp
  omega
theorem parseOk_text {r : Nat → Int} (h : right8 3 r = true) : parseOk (strOfNums (digits r 8)) = true := by
  unfold parseOk
  rw [strOfNums_size, digits_length, right8_congr (r' := r) (fun k hk => parseR_text h hk), h]
  rfl
theorem text_parse {s : ByteArray} (h : parseOk s = true) : strOfNums (digits (parseR s) 8) = s := by
  unfold parseOk at h
  rw [Bool.and_eq_true, decide_eq_true_eq] at h
  obtain ⟨h1, h2⟩ := h
  apply bl_inj
  rw [bl_strOfNums (digits_range h2)]
  apply List.ext_getElem?
  intro k
  by_cases hk : k < 8
  · rw [digits_get _ hk, bl_get (show k < s.size by omega), parseR_get (show k < s.size by omega)]
    simp
    omega
  · rw [List.getElem?_eq_none (by rw [digits_length]; omega), List.getElem?_eq_none (by rw [bl_length]; omega)]

theorem parse_text {r : Nat → Int} (h : right8 3 r = true) (w : World) : Calls Try.prog 40 #[.string (strOfNums (digits r 8))] w fun e w' => e = .returned (.tuple #[A8 r, .int .i64 0]) ∧ Fr w.heap.size [] w w' := by
  have h1 := parse_any (strOfNums (digits r 8)) w (by rw [strOfNums_size, digits_length]; unfold maxLen; omega)
  unfold ParseOut at h1
  rw [if_pos (parseOk_text h), if_pos (parseOk_text h), show A8 (parseR (strOfNums (digits r 8))) = A8 r from congrArg Value.agg (C8_congr fun k hk => parseR_text h hk)] at h1
  exact h1

/-- What the law keeps of its boxed arguments. -/
def TxInv (w0 : World) (g : Nat) (r : Nat → Int) (A : Option Addr) (n c : Nat) (xs : List Int) (tk : Int) (wx : World) : Prop :=
  Blk wx g 31 (C8 r) ∧ Blk wx (g + 1) 74 #[.slice A n c, .int .i64 tk] ∧ Reads wx w0.heap.size 1 A n (xs.map (Value.int .i64)) ∧ Below w0.heap.size w0 wx
theorem TxInv.step {w0 : World} {g : Nat} {r : Nat → Int} {A : Option Addr} {n c : Nat} {xs : List Int} {tk : Int} {wx wy : World} (h : RowKit.Hid (TxInv w0 g r A n c xs tk wx)) (hf : Fr wx.heap.size [] wx wy) : RowKit.Hid (TxInv w0 g r A n c xs tk wy) := by
  obtain ⟨h1, h2, h3, h4⟩ := h
  exact ⟨h1.fr hf h1.lt (by simp), h2.fr hf h2.lt (by simp), h3.frL hf h4.size (by simp), h4.trans (hf.below.mono h4.size)⟩

set_option maxRecDepth 100000 in
set_option maxHeartbeats 4000000 in
theorem walk_RouteTexts (r : Nat → Int) (s : ByteArray) (hs : s.size ≤ maxLen) (A : Option Addr) (n c : Nat) (xs : List Int) (tk : Int) (hn : n ≤ maxLen) (w : World) (hr : Reads w w.heap.size 1 A n (xs.map (Value.int .i64))) :
    Calls Try.prog 8 #[A8 r, .string s, .agg #[.slice A n c, .int .i64 tk]] w fun e w' => e = .returned (.bool true) ∧ Below w.heap.size w w' := by
  have hsm := hs
  have hnm := hn
  unfold maxLen at hs hn
  have INV0 : RowKit.Hid (TxInv w w.heap.size r A n c xs tk ((w.alloc (.cells (C8 r) 31)).alloc (.cells #[.slice A n c, .int .i64 tk] 74))) := by
    refine ⟨(Blk.new _ _ _).alloc _, ?_, (hr.frL (((Fr.refl w.heap.size [] w).alloc (Nat.le_refl _) _).alloc (by simp) _) (Nat.le_refl _) (by simp)), ((Below.refl _ _).alloc (Nat.le_refl _) _).alloc (by simp) _⟩
    have h := Blk.new (w.alloc (.cells (C8 r) 31)) 74 #[.slice A n c, .int .i64 tk]
    rwa [show (w.alloc (.cells (C8 r) 31)).heap.size = w.heap.size + 1 by simp] at h
  clear hr
  generalize hg : w.heap.size = g at INV0
  by_cases hl : s.size ≤ 100
  case neg =>
    go_enter Try.func8, Try.ntmps8
    go_wp2_with fail
    refine (awake09 _).mono ?_
    rintro e w1 ⟨rfl, b1⟩
    have B := Lib.hid (INV0.out.2.2.2.trans (b1.mono INV0.out.2.2.2.size))
    clear b1
    subst hg
    go_wp2_with fail
    go_ret
    exact ⟨rfl, B.out⟩
  by_cases hn60 : n ≤ 60
  case neg =>
    go_enter Try.func8, Try.ntmps8
    go_wp2_with fail
    refine (awake09 _).mono ?_
    rintro e w1 ⟨rfl, b1⟩
    have INV := TxInv.step INV0 (Fr.of_below b1)
    have hc := INV.out.2.1.cell 0
    clear b1
    subst hg
    go_wp2_with fail
    go_ret
    exact ⟨rfl, INV.out.2.2.2⟩
  subst hg
  go_enter Try.func8, Try.ntmps8
  go_wp2_with fail
  refine (awake09 _).mono ?_
  rintro e w1 ⟨rfl, b1⟩
  have INV := TxInv.step INV0 (Fr.of_below b1)
  clear b1 INV0
  have hc := INV.out.2.1.cell 0
  have h0 := (INV.out.1).cell 0
  have h1 := (INV.out.1).cell 1
  have h2 := (INV.out.1).cell 2
  have h3 := (INV.out.1).cell 3
  have h4 := (INV.out.1).cell 4
  have h5 := (INV.out.1).cell 5
  have h6 := (INV.out.1).cell 6
  have h7 := (INV.out.1).cell 7
  have hq0 := fun w => eq8_self (fun _ => 0) w
  have hqr := fun w => eq8_self r w
  have HPS : RowKit.Hid ((parseOk s = false ∧ ∀ w, Calls Try.prog 40 #[.string s] w fun e w' => e = .returned (.tuple #[A8 fun _ => 0, .int .i64 4]) ∧ Fr w.heap.size [] w w') ∨
      (parseOk s = true ∧ ∀ w, Calls Try.prog 40 #[.string s] w fun e w' => e = .returned (.tuple #[A8 (parseR s), .int .i64 0]) ∧ Fr w.heap.size [] w w')) := by
    have h1 := fun w => parse_any s w hsm
    unfold ParseOut at h1
    cases hok : parseOk s
    · rw [hok] at h1; exact .inl ⟨rfl, h1⟩
    · rw [hok] at h1; exact .inr ⟨rfl, h1⟩
  have HLY : RowKit.Hid (parseOk s = true → ∀ w, Calls Try.prog 21 #[.int .i64 3, A8 (parseR s)] w fun e w' => e = .returned (.bool true) ∧ Fr w.heap.size [] w w') := fun h w => by
    have h1 := lright_any 3 (parseR s) w
    rwa [show right8 3 (parseR s) = true by unfold parseOk at h; rw [Bool.and_eq_true] at h; exact h.2] at h1
  have HTY : RowKit.Hid (parseOk s = true → ∀ w, Calls Try.prog 39 #[A8 (parseR s)] w fun e w' => e = .returned (.string s) ∧ Fr w.heap.size [] w w') := fun h w => by
    have h1 := text_yes (parseR s) w (by unfold parseOk at h; rw [Bool.and_eq_true] at h; exact h.2)
    rwa [text_parse h] at h1
  have KEY : ∀ (P : Prop), (right8 3 r = false → P) → (right8 3 r = true → P) → P := fun P h1 h2 => by
    cases h : right8 3 r
    · exact h1 h
    · exact h2 h
  refine KEY _ (fun hv => ?_) (fun hv => ?_)
  case refine_1 =>
    have ht := fun w => text_no r w hv
    have hlr := fun w => lright_any 3 r w
    rw [hv] at hlr
    have HT := Lib.hid ht
    have HLR := Lib.hid hlr
    clear ht hlr hv KEY
    go_wp2_with fail
    refine (HT.out _).mono ?_
    rintro e w2 ⟨rfl, f2⟩
    have INV := TxInv.step INV f2
    clear hc f2
    clear h0 h1 h2 h3 h4 h5 h6 h7
    have h0 := (INV.out.1).cell 0
    have h1 := (INV.out.1).cell 1
    have h2 := (INV.out.1).cell 2
    have h3 := (INV.out.1).cell 3
    have h4 := (INV.out.1).cell 4
    have h5 := (INV.out.1).cell 5
    have h6 := (INV.out.1).cell 6
    have h7 := (INV.out.1).cell 7
    go_wp2_with fail
    refine (HLR.out _).mono ?_
    rintro e w3 ⟨rfl, f3⟩
    have INV := TxInv.step INV f3
    clear f3
    clear h0 h1 h2 h3 h4 h5 h6 h7
    have he : ByteArray.empty.toList.isEmpty = true := by rw [ByteArray.toList_eq]; rfl
    go_upto_region 17 with fail
    go_wp2_with fail
    rcases HPS.out with ⟨hok, hp⟩ | ⟨hok, hp⟩
    case inl =>
      have HOK := Lib.hid hok
      have HP := Lib.hid hp
      clear hok HTY HLY hp HPS
      refine (HP.out _).mono ?_
      rintro e w4 ⟨rfl, f4⟩
      have INV := TxInv.step INV f4
      clear f4
      have INV := TxInv.step INV ((Fr.refl w4.heap.size [] w4).alloc (Nat.le_refl _) (.cells (C8 fun _ => 0) 31))
      have hc := INV.out.2.1.cell 0
      have hc1 := INV.out.2.1.cell 1
      have h0 := (INV.out.1).cell 0
      have h1 := (INV.out.1).cell 1
      have h2 := (INV.out.1).cell 2
      have h3 := (INV.out.1).cell 3
      have h4 := (INV.out.1).cell 4
      have h5 := (INV.out.1).cell 5
      have h6 := (INV.out.1).cell 6
      have h7 := (INV.out.1).cell 7
      obtain ⟨w6, hw6⟩ : ∃ w6, w6 = w4.alloc (.cells (C8 fun _ => 0) 31) := ⟨_, rfl⟩
      go_upto_region 20 with fail
      rw [← hw6] at INV hc hc1 h0 h1 h2 h3 h4 h5 h6 h7 ⊢
      clear hw6
      go_wp2_with fail
      refine (merge_any r A n c xs tk _ (INV.out.2.2.1.more INV.out.2.2.2.size) hnm).mono ?_
      rintro e w7 ⟨rfl, f7⟩
      have INV := TxInv.step (TxInv.step INV f7) ((Fr.refl w7.heap.size [] w7).alloc (Nat.le_refl _) (.cells (C8 (mergeR r xs tk)) 31))
      have HM := Lib.hid (Blk.new w7 31 (C8 (mergeR r xs tk)))
      have HE : RowKit.Hid (∀ k, mergeR r xs tk k = if 0 ≤ tk ∧ tk < 3 ∧ hasI xs k = true then tk else r k) := fun k => rfl
      generalize mergeR r xs tk = E at HM HE INV ⊢
      clear f7 hc hc1
      clear h0 h1 h2 h3 h4 h5 h6 h7
      obtain ⟨w8, hw8⟩ : ∃ w8, w8 = w7.alloc (.cells (C8 E) 31) := ⟨_, rfl⟩
      go_wp2_with fail
      rw [← hw8] at HM INV ⊢
      clear hw8
      go_loop [14] (fun i => ∃ k : Nat, k ≤ 8 ∧ i = .int .i64 k) (fun i => 8 - (intOf i).toNat)
      case atStart => exact ⟨0, by omega, rfl⟩
      case round =>
        obtain ⟨k, hk, rfl⟩ := hrel
        by_cases hlt : k < 8
        · have hki : (k : Int) < 8 := by omega
          have hc := INV.out.2.1.cell 0
          have hc1 := INV.out.2.1.cell 1
          have hcr := INV.out.1.cell k
          rw [C8_get r hlt] at hcr
          have hcE := HM.out.cell k
          rw [C8_get E hlt] at hcE
          have hhas := has_any A n c w.heap.size xs k w8 INV.out.2.2.1 hnm
          have e2 := HE.out k
          by_cases hh : hasI xs k = true
          · rw [hh] at hhas
            have HH := Lib.hid hhas
            clear hhas
            by_cases t0 : 0 ≤ tk
            · by_cases t1 : tk ≤ 2
              · rw [if_pos ⟨t0, by omega, hh⟩] at e2
                have hne : (E k != tk) = false := by rw [e2]; simp
                clear e2 hh
                go_wp2_with (go_at_call 42; refine HH.out.mono ?_; rintro e w' ⟨rfl, rfl⟩)
                go_round
                case rel => exact ⟨k + 1, by omega, by go_num⟩
                case measure => simp [intOf]; omega
              · rw [if_neg (by omega)] at e2
                have hne : (E k != r k) = false := by rw [e2]; simp
                clear e2 hh
                go_wp2_with (go_at_call 42; refine HH.out.mono ?_; rintro e w' ⟨rfl, rfl⟩)
                go_round
                case rel => exact ⟨k + 1, by omega, by go_num⟩
                case measure => simp [intOf]; omega
            · rw [if_neg (by omega)] at e2
              have hne : (E k != r k) = false := by rw [e2]; simp
              clear e2 hh
              go_wp2_with (go_at_call 42; refine HH.out.mono ?_; rintro e w' ⟨rfl, rfl⟩)
              go_round
              case rel => exact ⟨k + 1, by omega, by go_num⟩
              case measure => simp [intOf]; omega
          · rw [if_neg (fun h => hh h.2.2)] at e2
            rw [show hasI xs k = false by simpa using hh] at hhas
            have HH := Lib.hid hhas
            have hne : (E k != r k) = false := by rw [e2]; simp
            clear e2 hh hhas
            go_wp2_with (go_at_call 42; refine HH.out.mono ?_; rintro e w' ⟨rfl, rfl⟩)
            go_round
            case rel => exact ⟨k + 1, by omega, by go_num⟩
            case measure => simp [intOf]; omega
        · obtain rfl : k = 8 := by omega
          go_wp2_with fail
          go_ret
          exact ⟨rfl, INV.out.2.2.2⟩
    case inr =>
      have HLY := Lib.hid (HLY.out hok)
      have HTY := Lib.hid (HTY.out hok)
      have HP := Lib.hid hp
      clear hok hp HPS
      generalize parseR s = y at HLY HTY HP
      refine (HP.out _).mono ?_
      rintro e w4 ⟨rfl, f4⟩
      have INV := TxInv.step INV f4
      clear f4
      go_wp2_with fail
      refine (HLY.out _).mono ?_
      rintro e w5 ⟨rfl, f5⟩
      have hy := (Blk.new w4 31 (C8 y)).fr f5 (by simp) (by simp)
      have INV := TxInv.step (TxInv.step INV ((Fr.refl w4.heap.size [] w4).alloc (Nat.le_refl _) (.cells (C8 y) 31))) f5
      have y0 := (hy).cell 0
      have y1 := (hy).cell 1
      have y2 := (hy).cell 2
      have y3 := (hy).cell 3
      have y4 := (hy).cell 4
      have y5 := (hy).cell 5
      have y6 := (hy).cell 6
      have y7 := (hy).cell 7
      clear hy f5
      go_wp2_with fail
      refine (HTY.out _).mono ?_
      rintro e w6 ⟨rfl, f6⟩
      have INV := TxInv.step INV f6
      clear f6
      clear y0 y1 y2 y3 y4 y5 y6 y7
      have hc := INV.out.2.1.cell 0
      have hc1 := INV.out.2.1.cell 1
      have h0 := (INV.out.1).cell 0
      have h1 := (INV.out.1).cell 1
      have h2 := (INV.out.1).cell 2
      have h3 := (INV.out.1).cell 3
      have h4 := (INV.out.1).cell 4
      have h5 := (INV.out.1).cell 5
      have h6 := (INV.out.1).cell 6
      have h7 := (INV.out.1).cell 7
      go_upto_region 20 with fail
      go_wp2_with fail
      refine (merge_any r A n c xs tk _ (INV.out.2.2.1.more INV.out.2.2.2.size) hnm).mono ?_
      rintro e w7 ⟨rfl, f7⟩
      have INV := TxInv.step (TxInv.step INV f7) ((Fr.refl w7.heap.size [] w7).alloc (Nat.le_refl _) (.cells (C8 (mergeR r xs tk)) 31))
      have HM := Lib.hid (Blk.new w7 31 (C8 (mergeR r xs tk)))
      have HE : RowKit.Hid (∀ k, mergeR r xs tk k = if 0 ≤ tk ∧ tk < 3 ∧ hasI xs k = true then tk else r k) := fun k => rfl
      generalize mergeR r xs tk = E at HM HE INV ⊢
      clear f7 hc hc1
      clear h0 h1 h2 h3 h4 h5 h6 h7
      obtain ⟨w8, hw8⟩ : ∃ w8, w8 = w7.alloc (.cells (C8 E) 31) := ⟨_, rfl⟩
      go_wp2_with fail
      rw [← hw8] at HM INV ⊢
      clear hw8
      go_loop [14] (fun i => ∃ k : Nat, k ≤ 8 ∧ i = .int .i64 k) (fun i => 8 - (intOf i).toNat)
      case atStart => exact ⟨0, by omega, rfl⟩
      case round =>
        obtain ⟨k, hk, rfl⟩ := hrel
        by_cases hlt : k < 8
        · have hki : (k : Int) < 8 := by omega
          have hc := INV.out.2.1.cell 0
          have hc1 := INV.out.2.1.cell 1
          have hcr := INV.out.1.cell k
          rw [C8_get r hlt] at hcr
          have hcE := HM.out.cell k
          rw [C8_get E hlt] at hcE
          have hhas := has_any A n c w.heap.size xs k w8 INV.out.2.2.1 hnm
          have e2 := HE.out k
          by_cases hh : hasI xs k = true
          · rw [hh] at hhas
            have HH := Lib.hid hhas
            clear hhas
            by_cases t0 : 0 ≤ tk
            · by_cases t1 : tk ≤ 2
              · rw [if_pos ⟨t0, by omega, hh⟩] at e2
                have hne : (E k != tk) = false := by rw [e2]; simp
                clear e2 hh
                go_wp2_with (go_at_call 42; refine HH.out.mono ?_; rintro e w' ⟨rfl, rfl⟩)
                go_round
                case rel => exact ⟨k + 1, by omega, by go_num⟩
                case measure => simp [intOf]; omega
              · rw [if_neg (by omega)] at e2
                have hne : (E k != r k) = false := by rw [e2]; simp
                clear e2 hh
                go_wp2_with (go_at_call 42; refine HH.out.mono ?_; rintro e w' ⟨rfl, rfl⟩)
                go_round
                case rel => exact ⟨k + 1, by omega, by go_num⟩
                case measure => simp [intOf]; omega
            · rw [if_neg (by omega)] at e2
              have hne : (E k != r k) = false := by rw [e2]; simp
              clear e2 hh
              go_wp2_with (go_at_call 42; refine HH.out.mono ?_; rintro e w' ⟨rfl, rfl⟩)
              go_round
              case rel => exact ⟨k + 1, by omega, by go_num⟩
              case measure => simp [intOf]; omega
          · rw [if_neg (fun h => hh h.2.2)] at e2
            rw [show hasI xs k = false by simpa using hh] at hhas
            have HH := Lib.hid hhas
            have hne : (E k != r k) = false := by rw [e2]; simp
            clear e2 hh hhas
            go_wp2_with (go_at_call 42; refine HH.out.mono ?_; rintro e w' ⟨rfl, rfl⟩)
            go_round
            case rel => exact ⟨k + 1, by omega, by go_num⟩
            case measure => simp [intOf]; omega
        · obtain rfl : k = 8 := by omega
          go_wp2_with fail
          go_ret
          exact ⟨rfl, INV.out.2.2.2⟩
  case refine_2 =>
    have ht := fun w => text_yes r w hv
    have hlr := fun w => lright_any 3 r w
    rw [hv] at hlr
    have HT := Lib.hid ht
    have HLR := Lib.hid hlr
    have HV := Lib.hid hv
    clear ht hlr hv KEY
    go_wp2_with fail
    refine (HT.out _).mono ?_
    rintro e w2 ⟨rfl, f2⟩
    have INV := TxInv.step INV f2
    clear hc f2
    clear h0 h1 h2 h3 h4 h5 h6 h7
    have h0 := (INV.out.1).cell 0
    have h1 := (INV.out.1).cell 1
    have h2 := (INV.out.1).cell 2
    have h3 := (INV.out.1).cell 3
    have h4 := (INV.out.1).cell 4
    have h5 := (INV.out.1).cell 5
    have h6 := (INV.out.1).cell 6
    have h7 := (INV.out.1).cell 7
    go_wp2_with fail
    refine (HLR.out _).mono ?_
    rintro e w3 ⟨rfl, f3⟩
    have INV := TxInv.step INV f3
    clear f3
    clear h0 h1 h2 h3 h4 h5 h6 h7
    obtain ⟨st, hst⟩ : ∃ st, st = strOfNums (digits r 8) := ⟨_, rfl⟩
    rw [← hst]
    have HST := Lib.hid hst
    have hst8 : st.size = 8 := by rw [hst, strOfNums_size, digits_length]
    have hsti : (st.size : Int) = 8 := by omega
    clear hst
    go_wp2_with fail
    go_loopw [8] (fun i wr => ∃ k m : Nat, k ≤ 8 ∧ i = .int .i64 k ∧ wr = w3.drewN m) (fun i _ => 8 - (intOf i).toNat)
    case atStart => exact ⟨0, 0, by omega, rfl, rfl⟩
    case round =>
      obtain ⟨k, m, hk, rfl, rfl⟩ := hrel
      by_cases hlt : k < 8
      · have hks : k < st.size := by omega
        have hcell := INV.out.1.cell k
        rw [C8_get r hlt] at hcell
        obtain ⟨g0, g1⟩ := right8_get HV.out hlt
        have hb : (st[k].toNat : Int) = 48 + r k := by
          have h1 := bl_get hks
          have h2 : bl st = digits r 8 := by rw [HST.out, bl_strOfNums (digits_range HV.out)]
          rw [h2, digits_get r hlt] at h1
          injection h1 with h1
          exact h1.symm
        have hki : (k : Int) < 8 := by omega
        have hki2 : (k : Int) < (st.size : Int) := by omega
        have hne : ((st.size : Int) != 8) = false := by rw [hsti]; rfl
        have hw : IntKind.i64.wrap (48 + r k) = 48 + r k := by rw [IntKind.wrap_i64]; omega
        go_wp2_with fail
        go_quiet (fail)
        go_wp2_with fail
        go_roundw
        case rel => exact ⟨k + 1, m + nq, by omega, by go_num, by first | rfl | rw [World.drewN_drewN]⟩
        case measure => simp [intOf]; omega
      · obtain rfl : k = 8 := by omega
        have INV := TxInv.step INV ((Fr.refl w3.heap.size [] w3).drewN m)
        have hps := fun w => parse_text HV.out w
        rw [← HST.out] at hps
        have HP := Lib.hid hps
        clear hps hlt hk
        go_wp2_with fail
        refine (HP.out _).mono ?_
        rintro e w3' ⟨rfl, f3⟩
        have INV := TxInv.step (TxInv.step INV f3) ((Fr.refl w3'.heap.size [] w3').alloc (Nat.le_refl _) (.cells (C8 r) 31))
        clear f3
        have h0 := (INV.out.1).cell 0
        have h1 := (INV.out.1).cell 1
        have h2 := (INV.out.1).cell 2
        have h3 := (INV.out.1).cell 3
        have h4 := (INV.out.1).cell 4
        have h5 := (INV.out.1).cell 5
        have h6 := (INV.out.1).cell 6
        have h7 := (INV.out.1).cell 7
        go_upto_region 17 with fail
        clear h0 h1 h2 h3 h4 h5 h6 h7
        go_wp2_with fail
        rcases HPS.out with ⟨hok, hp⟩ | ⟨hok, hp⟩
        case inl =>
          have HOK := Lib.hid hok
          have HP := Lib.hid hp
          clear hok HTY HLY hp HPS
          refine (HP.out _).mono ?_
          rintro e w4 ⟨rfl, f4⟩
          have INV := TxInv.step INV f4
          clear f4
          have INV := TxInv.step INV ((Fr.refl w4.heap.size [] w4).alloc (Nat.le_refl _) (.cells (C8 fun _ => 0) 31))
          have hc := INV.out.2.1.cell 0
          have hc1 := INV.out.2.1.cell 1
          have h0 := (INV.out.1).cell 0
          have h1 := (INV.out.1).cell 1
          have h2 := (INV.out.1).cell 2
          have h3 := (INV.out.1).cell 3
          have h4 := (INV.out.1).cell 4
          have h5 := (INV.out.1).cell 5
          have h6 := (INV.out.1).cell 6
          have h7 := (INV.out.1).cell 7
          obtain ⟨w6, hw6⟩ : ∃ w6, w6 = w4.alloc (.cells (C8 fun _ => 0) 31) := ⟨_, rfl⟩
          go_upto_region 20 with fail
          rw [← hw6] at INV hc hc1 h0 h1 h2 h3 h4 h5 h6 h7 ⊢
          clear hw6
          go_wp2_with fail
          refine (merge_any r A n c xs tk _ (INV.out.2.2.1.more INV.out.2.2.2.size) hnm).mono ?_
          rintro e w7 ⟨rfl, f7⟩
          have INV := TxInv.step (TxInv.step INV f7) ((Fr.refl w7.heap.size [] w7).alloc (Nat.le_refl _) (.cells (C8 (mergeR r xs tk)) 31))
          have HM := Lib.hid (Blk.new w7 31 (C8 (mergeR r xs tk)))
          have HE : RowKit.Hid (∀ k, mergeR r xs tk k = if 0 ≤ tk ∧ tk < 3 ∧ hasI xs k = true then tk else r k) := fun k => rfl
          generalize mergeR r xs tk = E at HM HE INV ⊢
          clear f7 hc hc1
          clear h0 h1 h2 h3 h4 h5 h6 h7
          obtain ⟨w8, hw8⟩ : ∃ w8, w8 = w7.alloc (.cells (C8 E) 31) := ⟨_, rfl⟩
          go_wp2_with fail
          rw [← hw8] at HM INV ⊢
          clear hw8
          go_loop [14] (fun i => ∃ k : Nat, k ≤ 8 ∧ i = .int .i64 k) (fun i => 8 - (intOf i).toNat)
          case atStart => exact ⟨0, by omega, rfl⟩
          case round =>
            obtain ⟨k, hk, rfl⟩ := hrel
            by_cases hlt : k < 8
            · have hki : (k : Int) < 8 := by omega
              have hc := INV.out.2.1.cell 0
              have hc1 := INV.out.2.1.cell 1
              have hcr := INV.out.1.cell k
              rw [C8_get r hlt] at hcr
              have hcE := HM.out.cell k
              rw [C8_get E hlt] at hcE
              have hhas := has_any A n c w.heap.size xs k w8 INV.out.2.2.1 hnm
              have e2 := HE.out k
              by_cases hh : hasI xs k = true
              · rw [hh] at hhas
                have HH := Lib.hid hhas
                clear hhas
                by_cases t0 : 0 ≤ tk
                · by_cases t1 : tk ≤ 2
                  · rw [if_pos ⟨t0, by omega, hh⟩] at e2
                    have hne : (E k != tk) = false := by rw [e2]; simp
                    clear e2 hh
                    go_wp2_with (go_at_call 42; refine HH.out.mono ?_; rintro e w' ⟨rfl, rfl⟩)
                    go_round
                    case rel => exact ⟨k + 1, by omega, by go_num⟩
                    case measure => simp [intOf]; omega
                  · rw [if_neg (by omega)] at e2
                    have hne : (E k != r k) = false := by rw [e2]; simp
                    clear e2 hh
                    go_wp2_with (go_at_call 42; refine HH.out.mono ?_; rintro e w' ⟨rfl, rfl⟩)
                    go_round
                    case rel => exact ⟨k + 1, by omega, by go_num⟩
                    case measure => simp [intOf]; omega
                · rw [if_neg (by omega)] at e2
                  have hne : (E k != r k) = false := by rw [e2]; simp
                  clear e2 hh
                  go_wp2_with (go_at_call 42; refine HH.out.mono ?_; rintro e w' ⟨rfl, rfl⟩)
                  go_round
                  case rel => exact ⟨k + 1, by omega, by go_num⟩
                  case measure => simp [intOf]; omega
              · rw [if_neg (fun h => hh h.2.2)] at e2
                rw [show hasI xs k = false by simpa using hh] at hhas
                have HH := Lib.hid hhas
                have hne : (E k != r k) = false := by rw [e2]; simp
                clear e2 hh hhas
                go_wp2_with (go_at_call 42; refine HH.out.mono ?_; rintro e w' ⟨rfl, rfl⟩)
                go_round
                case rel => exact ⟨k + 1, by omega, by go_num⟩
                case measure => simp [intOf]; omega
            · obtain rfl : k = 8 := by omega
              go_wp2_with fail
              go_ret
              exact ⟨rfl, INV.out.2.2.2⟩
        case inr =>
          have HLY := Lib.hid (HLY.out hok)
          have HTY := Lib.hid (HTY.out hok)
          have HP := Lib.hid hp
          clear hok hp HPS
          generalize parseR s = y at HLY HTY HP
          refine (HP.out _).mono ?_
          rintro e w4 ⟨rfl, f4⟩
          have INV := TxInv.step INV f4
          clear f4
          go_wp2_with fail
          refine (HLY.out _).mono ?_
          rintro e w5 ⟨rfl, f5⟩
          have hy := (Blk.new w4 31 (C8 y)).fr f5 (by simp) (by simp)
          have INV := TxInv.step (TxInv.step INV ((Fr.refl w4.heap.size [] w4).alloc (Nat.le_refl _) (.cells (C8 y) 31))) f5
          have y0 := (hy).cell 0
          have y1 := (hy).cell 1
          have y2 := (hy).cell 2
          have y3 := (hy).cell 3
          have y4 := (hy).cell 4
          have y5 := (hy).cell 5
          have y6 := (hy).cell 6
          have y7 := (hy).cell 7
          clear hy f5
          go_wp2_with fail
          refine (HTY.out _).mono ?_
          rintro e w6 ⟨rfl, f6⟩
          have INV := TxInv.step INV f6
          clear f6
          clear y0 y1 y2 y3 y4 y5 y6 y7
          have hc := INV.out.2.1.cell 0
          have hc1 := INV.out.2.1.cell 1
          have h0 := (INV.out.1).cell 0
          have h1 := (INV.out.1).cell 1
          have h2 := (INV.out.1).cell 2
          have h3 := (INV.out.1).cell 3
          have h4 := (INV.out.1).cell 4
          have h5 := (INV.out.1).cell 5
          have h6 := (INV.out.1).cell 6
          have h7 := (INV.out.1).cell 7
          go_upto_region 20 with fail
          go_wp2_with fail
          refine (merge_any r A n c xs tk _ (INV.out.2.2.1.more INV.out.2.2.2.size) hnm).mono ?_
          rintro e w7 ⟨rfl, f7⟩
          have INV := TxInv.step (TxInv.step INV f7) ((Fr.refl w7.heap.size [] w7).alloc (Nat.le_refl _) (.cells (C8 (mergeR r xs tk)) 31))
          have HM := Lib.hid (Blk.new w7 31 (C8 (mergeR r xs tk)))
          have HE : RowKit.Hid (∀ k, mergeR r xs tk k = if 0 ≤ tk ∧ tk < 3 ∧ hasI xs k = true then tk else r k) := fun k => rfl
          generalize mergeR r xs tk = E at HM HE INV ⊢
          clear f7 hc hc1
          clear h0 h1 h2 h3 h4 h5 h6 h7
          obtain ⟨w8, hw8⟩ : ∃ w8, w8 = w7.alloc (.cells (C8 E) 31) := ⟨_, rfl⟩
          go_wp2_with fail
          rw [← hw8] at HM INV ⊢
          clear hw8
          go_loop [14] (fun i => ∃ k : Nat, k ≤ 8 ∧ i = .int .i64 k) (fun i => 8 - (intOf i).toNat)
          case atStart => exact ⟨0, by omega, rfl⟩
          case round =>
            obtain ⟨k, hk, rfl⟩ := hrel
            by_cases hlt : k < 8
            · have hki : (k : Int) < 8 := by omega
              have hc := INV.out.2.1.cell 0
              have hc1 := INV.out.2.1.cell 1
              have hcr := INV.out.1.cell k
              rw [C8_get r hlt] at hcr
              have hcE := HM.out.cell k
              rw [C8_get E hlt] at hcE
              have hhas := has_any A n c w.heap.size xs k w8 INV.out.2.2.1 hnm
              have e2 := HE.out k
              by_cases hh : hasI xs k = true
              · rw [hh] at hhas
                have HH := Lib.hid hhas
                clear hhas
                by_cases t0 : 0 ≤ tk
                · by_cases t1 : tk ≤ 2
                  · rw [if_pos ⟨t0, by omega, hh⟩] at e2
                    have hne : (E k != tk) = false := by rw [e2]; simp
                    clear e2 hh
                    go_wp2_with (go_at_call 42; refine HH.out.mono ?_; rintro e w' ⟨rfl, rfl⟩)
                    go_round
                    case rel => exact ⟨k + 1, by omega, by go_num⟩
                    case measure => simp [intOf]; omega
                  · rw [if_neg (by omega)] at e2
                    have hne : (E k != r k) = false := by rw [e2]; simp
                    clear e2 hh
                    go_wp2_with (go_at_call 42; refine HH.out.mono ?_; rintro e w' ⟨rfl, rfl⟩)
                    go_round
                    case rel => exact ⟨k + 1, by omega, by go_num⟩
                    case measure => simp [intOf]; omega
                · rw [if_neg (by omega)] at e2
                  have hne : (E k != r k) = false := by rw [e2]; simp
                  clear e2 hh
                  go_wp2_with (go_at_call 42; refine HH.out.mono ?_; rintro e w' ⟨rfl, rfl⟩)
                  go_round
                  case rel => exact ⟨k + 1, by omega, by go_num⟩
                  case measure => simp [intOf]; omega
              · rw [if_neg (fun h => hh h.2.2)] at e2
                rw [show hasI xs k = false by simpa using hh] at hhas
                have HH := Lib.hid hhas
                have hne : (E k != r k) = false := by rw [e2]; simp
                clear e2 hh hhas
                go_wp2_with (go_at_call 42; refine HH.out.mono ?_; rintro e w' ⟨rfl, rfl⟩)
                go_round
                case rel => exact ⟨k + 1, by omega, by go_num⟩
                case measure => simp [intOf]; omega
            · obtain rfl : k = 8 := by omega
              go_wp2_with fail
              go_ret
              exact ⟨rfl, INV.out.2.2.2⟩
end Go.Proofs.Ytkmkdodhahcpdaa
