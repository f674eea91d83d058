/- forebaylaw09.RouteParts. -/
import Derived.Test.YtkmkdodhahcpdaaPartsC
import Derived.Test.YtkmkdodhahcpdaaRouteD
namespace Go.Proofs.Ytkmkdodhahcpdaa
open Go.RowKit Go.Fb
abbrev nodeC (id par : Int) (u1 u2 u3 : Value) (r : Nat → Int) : Array Value := #[.int .i64 id, u1, u2, u3, .int .i64 par, .int .i64 (r 0), .int .i64 (r 1), .int .i64 (r 2), .int .i64 (r 3), .int .i64 (r 4), .int .i64 (r 5), .int .i64 (r 6), .int .i64 (r 7)]
theorem nodeC_route (id par : Int) (u1 u2 u3 : Value) (r : Nat → Int) : ∀ d, d < 8 → (nodeC id par u1 u2 u3 r)[5 + d]? = some (.int .i64 (r d))
  | 0, _ => rfl
  | 1, _ => rfl
  | 2, _ => rfl
  | 3, _ => rfl
  | 4, _ => rfl
  | 5, _ => rfl
  | 6, _ => rfl
  | 7, _ => rfl
  | d + 8, h => by omega
set_option maxRecDepth 100000 in
set_option maxHeartbeats 1000000 in
theorem walk_RouteParts (id par : Int) (u1 u2 u3 : Value) (r : Nat → Int) (l : List (Nat → Int)) (A : Option Addr) (c : Nat) (w : World) (hr : Reads w w.heap.size 6 A l.length (cellsE l)) (hm : l.length ≤ maxLen) :
    Calls Try.prog 5 #[nodeV id par u1 u2 u3 r, .slice A l.length c] w fun e w' => e = .returned (.bool true) ∧ Below w.heap.size w w' := by
  unfold maxLen at hm
  have HA := Lib.hid awake09
  have HR := Lib.hid hr
  have HX := Lib.hid (fun (k : Nat) (hk : k < l.length) => (⟨l[k], List.getElem?_eq_getElem hk⟩ : ∃ x, l[k]? = some x))
  clear hr
  obtain ⟨n, hn⟩ : ∃ n, n = l.length := ⟨_, rfl⟩
  have HN := Lib.hid hn
  rw [← hn] at hm ⊢
  clear hn
  go_enter Try.func5, Try.ntmps5
  go_wp2_with fail
  have B0 := Lib.hid (Blk.new w 41 (nodeC id par u1 u2 u3 r))
  have F0 := Lib.hid ((Fr.refl w.heap.size [] w).alloc (Nat.le_refl _) (.cells (nodeC id par u1 u2 u3 r) 41))
  generalize w.alloc _ = w0 at *
  refine (HA.out _).mono ?_
  rintro e w1 ⟨rfl, f1⟩
  have f1' := Fr.of_below (L := []) f1
  have B1 := Lib.hid (B0.out.fr f1' B0.out.lt (by simp))
  have F1 := Lib.hid (F0.out.trans (f1'.mono F0.out.size (by simp)))
  clear f1 f1'
  by_cases hl : 100 < n
  · go_wp2_with fail
    go_ret
    exact ⟨rfl, F1.out.below⟩
  have hnb1 : w.heap.size < w1.heap.size := B1.out.lt
  have HX1 := Lib.hid (fun k x (hx : l[k]? = some x) => reads_ent (HR.out.fr F1.out (Nat.le_refl _) (by simp)) hx)
  go_wp2_with fail
  go_loopw [6, 19] (fun s6 i wr => ∃ k : Nat, k ≤ n ∧ i = .int .i64 k ∧ (s6 = undef ∨ ∃ a, s6 = .pointer a) ∧ RowKit.Hid (∀ j x, j < k → l[j]? = some x → 0 ≤ x 1) ∧ RowKit.Hid (Fr w1.heap.size [] w1 wr)) (fun _ i _ => n - (intOf i).toNat)
  case atStart => exact ⟨0, by omega, rfl, .inl rfl, fun j x hj => absurd hj (by omega), Fr.refl _ _ _⟩
  case round =>
    obtain ⟨k, hk, rfl, hs6, HK, HF⟩ := hrel
    by_cases hkn : k < n
    · obtain ⟨x, hx⟩ := HX.out k (by rw [← HN.out]; exact hkn)
      obtain ⟨b1, o1, rfl, hb1, hc1⟩ := HX1.out k x hx
      have hlt := HF.out.size
      have hq := fun j hj => (HF.out.cell (p := ⟨b1, o1 + (k * 6 + j), none⟩) (by show b1 < _; omega) (by simp)).trans (hc1 j hj)
      have p0 := hq 0 (by omega)
      have p1 := hq 1 (by omega)
      have p2 := hq 2 (by omega)
      have p3 := hq 3 (by omega)
      have p4 := hq 4 (by omega)
      have p5 := hq 5 (by omega)
      simp only [Nat.add_zero, ← Nat.add_assoc] at p0 p1 p2 p3 p4 p5
      have hki : (k : Int) < (n : Int) := by omega
      have HXK := Lib.hid hx
      clear hc1 hq hx
      by_cases h1 : x 1 < 0
      · go_wp2_with fail
        go_ret
        exact ⟨rfl, (F1.out.trans ((HF.out.alloc hlt _).mono (by omega) (by simp))).below⟩
      · go_wp2_with fail
        go_roundw
        case rel =>
          refine ⟨k + 1, by omega, by go_num, .inr ⟨_, rfl⟩, fun j y hj hy => ?_, HF.out.alloc hlt _⟩
          by_cases e : j = k
          · subst e
            rw [HXK.out] at hy
            injection hy with hy
            rw [← hy]
            omega
          · exact HK.out j y (by omega) hy
        case measure => simp [intOf]; omega
    · obtain rfl : k = n := by omega
      have HK' := HK
      have hnb2 := HF.out.size
      have B2 := Lib.hid (B1.out.fr HF.out hnb1 (by simp))
      have F2 := Lib.hid (F1.out.trans (HF.out.mono (by omega) (by simp)))
      clear HK HX1 B1 F1 HF
      generalize wr = w2 at *
      have c0 := B2.out.cell 0
      have c1 := B2.out.cell 1
      have c2 := B2.out.cell 2
      have c3 := B2.out.cell 3
      have c4 := B2.out.cell 4
      have c5 := B2.out.cell 5
      have c6 := B2.out.cell 6
      have c7 := B2.out.cell 7
      have c8 := B2.out.cell 8
      have c9 := B2.out.cell 9
      have c10 := B2.out.cell 10
      have c11 := B2.out.cell 11
      have c12 := B2.out.cell 12
      simp at c0 c1 c2 c3 c4 c5 c6 c7 c8 c9 c10 c11 c12
      go_wp2_with fail
      clear c0 c1 c2 c3 c4 c5 c6 c7 c8 c9 c10 c11 c12
      rcases Bool.eq_false_or_eq_true (right8 par r) with hR | hR
      case' inr =>
        refine (parts_no id par u1 u2 u3 r _ _ hR).mono ?_
        rintro e w3 ⟨rfl, f3⟩
        have B3 := Lib.hid (B2.out.fr f3 B2.out.lt (by simp))
        have F3 := Lib.hid (F2.out.trans (f3.mono F2.out.size (by simp)))
        have HRR := Lib.hid hR
        have c4 := B3.out.cell 4
        have c5 := B3.out.cell 5
        have c6 := B3.out.cell 6
        have c7 := B3.out.cell 7
        have c8 := B3.out.cell 8
        have c9 := B3.out.cell 9
        have c10 := B3.out.cell 10
        have c11 := B3.out.cell 11
        have c12 := B3.out.cell 12
        simp at c4 c5 c6 c7 c8 c9 c10 c11 c12
        clear hR f3
        go_wp2_with fail
        refine (lright_any par r _).mono ?_
        rintro e w4 ⟨rfl, f4⟩
        rw [HRR.out]
        go_wp2_with fail
        go_ret
        exact ⟨rfl, (F3.out.trans (f4.mono F3.out.size (by simp))).below⟩
      have hp : 1 ≤ par ∧ par ≤ 3 := of_decide_eq_true ((Bool.and_eq_true _ _).mp hR).1
      obtain ⟨P, rfl⟩ := Int.eq_ofNat_of_zero_le (show 0 ≤ par by omega)
      obtain ⟨hp1, hp3⟩ := hp
      have hpy := parts_yes id P u1 u2 u3 r l A c w2 hR (by rw [← HN.out]; omega) ((HR.out.fr F2.out (Nat.le_refl _) (by simp)).more F2.out.size)
      rw [← HN.out] at hpy
      refine hpy.mono ?_
      rintro e w3 ⟨gr, R, rfl, hinv⟩
      have B3 := Lib.hid (B2.out.fr hinv.fr B2.out.lt (by simp))
      have F3 := Lib.hid (F2.out.trans (hinv.fr.mono F2.out.size (by simp)))
      have HRR := Lib.hid hR
      have INV := Lib.hid hinv
      have c4 := B3.out.cell 4
      have c5 := B3.out.cell 5
      have c6 := B3.out.cell 6
      have c7 := B3.out.cell 7
      have c8 := B3.out.cell 8
      have c9 := B3.out.cell 9
      have c10 := B3.out.cell 10
      have c11 := B3.out.cell 11
      have c12 := B3.out.cell 12
      simp at c4 c5 c6 c7 c8 c9 c10 c11 c12
      clear hR hpy hinv
      go_wp2_with fail
      refine (lright_any P r _).mono ?_
      rintro e w4 ⟨rfl, f4⟩
      rw [HRR.out]
      have B4 := Lib.hid (B3.out.fr f4 B3.out.lt (by simp))
      have F4 := Lib.hid (F3.out.trans (f4.mono F3.out.size (by simp)))
      have INV4 : RowKit.Hid _ := INV.out.keep f4
      have HG := Lib.hid (fun k (hk : k < 8) => right8_get HRR.out hk)
      have HX4 := Lib.hid (fun k x (hx : l[k]? = some x) => reads_ent (HR.out.fr F4.out (Nat.le_refl _) (by simp)) hx)
      have d4 := B4.out.cell 4
      simp at d4
      have hgr4 := INV4.out.blk.lt
      have hnb4 := B4.out.lt
      clear c4 c5 c6 c7 c8 c9 c10 c11 c12 INV B3 F3 f4
      go_wp2_with fail
      go_loopw [46] (fun i wr => ∃ t : Nat, t ≤ P ∧ i = .int .i64 t ∧ RowKit.Hid (Fr w4.heap.size [] w4 wr)) (fun i _ => P - (intOf i).toNat)
      case atStart => exact ⟨0, by omega, rfl, Fr.refl _ _ _⟩
      case round =>
        obtain ⟨t, ht, rfl, HF⟩ := hrel
        by_cases htp : t < P
        · have hti : (t : Int) < (P : Int) := by omega
          go_upto_region 20 with fail
          have HFt := HF
          have BT := Lib.hid (B4.out.fr HF.out hnb4 (by simp))
          have FT := Lib.hid (F4.out.trans (HF.out.mono F4.out.size (by simp)))
          have INVT : RowKit.Hid (PInv w2 gr P (fun t => partC id r t l) R wr) := INV4.out.keep HF.out
          have HXT := Lib.hid (fun k x (hx : l[k]? = some x) => reads_ent (HR.out.fr FT.out (Nat.le_refl _) (by simp)) hx)
          have hgrt := INVT.out.blk.lt
          have hnbt := BT.out.lt
          clear HF
          generalize wr = wt at *
          go_wp2_with fail
          go_loopw [9, 11, 51] (fun s9 _ i wr => ∃ (j m c' : Nat) (A' : Option Addr), j ≤ k ∧ i = .int .i64 j ∧ s9 = .slice A' m c' ∧ m ≤ j ∧ RowKit.Hid (m = (partC id r t (l.take j)).length) ∧
            RowKit.Hid (wr.ownsRow wt.heap.size 47 6 (.slice A' m c') m (cellsE (partC id r t (l.take j)))) ∧ RowKit.Hid (Fr wt.heap.size [] wt wr)) (fun _ _ i _ => k - (intOf i).toNat)
          case atStart => exact ⟨0, 0, 0, none, by omega, rfl, rfl, by omega, rfl, (World.ownsRow_nil _ _ _ _ : wt.ownsRow _ _ _ _ 0 []), Fr.refl _ _ _⟩
          case round =>
            obtain ⟨j, m, c', A', hj, rfl, rfl, hmj, HM, HO, HF⟩ := hrel
            by_cases hjk : j < k
            · obtain ⟨x, hx⟩ := HX.out j (by rw [← HN.out]; exact hjk)
              have hk0 := HK'.out j x hjk hx
              obtain ⟨b1, o1, rfl, hb1, hc1⟩ := HXT.out j x hx
              have hlt := HF.out.size
              have hq := fun j' hj' => (HF.out.cell (p := ⟨b1, o1 + (j * 6 + j'), none⟩) (by show b1 < _; omega) (by simp)).trans (hc1 j' hj')
              have p0 := hq 0 (by omega)
              have p1 := hq 1 (by omega)
              have p2 := hq 2 (by omega)
              have p3 := hq 3 (by omega)
              have p4 := hq 4 (by omega)
              have p5 := hq 5 (by omega)
              simp only [Nat.add_zero, ← Nat.add_assoc] at p0 p1 p2 p3 p4 p5
              have hji : (j : Int) < (k : Int) := by omega
              have HXK := Lib.hid hx
              have HS := Lib.hid (partC_step (id := id) (r := r) (t := t) hx)
              obtain ⟨d, hd⟩ := Int.eq_ofNat_of_zero_le (show 0 ≤ x 1 % 8 by omega)
              have hd' : x 1 % 8 = (d : Int) := hd
              have hd8 : d < 8 := by omega
              have htm : (x 1).tmod 8 = (d : Int) := by rw [Int.tmod_eq_emod_of_nonneg hk0]; exact hd'
              have hdi : (d : Int) < 8 := by omega
              have BR := Lib.hid (BT.out.fr HF.out hnbt (by simp))
              have n0 := BR.out.cell 0
              have hnbr : w.heap.size < wr.heap.size := by omega
              have nd := BR.out.cell (5 + d)
              rw [nodeC_route _ _ _ _ _ _ d hd8] at nd
              simp at n0
              have HIP : RowKit.Hid (inPart id r t x = (x 0 == id && r d == (t : Int))) := by
                show inPart id r t x = _
                unfold inPart
                rw [hd']
                rfl
              clear hc1 hq hx hd
              by_cases h0 : x 0 = id
              · subst h0
                by_cases h1 : r d = (t : Int)
                · have HH1 := Lib.hid h1
                  go_upto_region 24 with fail
                  have ho := HO.out.alloc (.cells #[.int .i64 (x 0), .int .i64 (x 1), .int .i64 (x 2), .int .i64 (x 3), .int .i64 (x 4), .int .i64 (x 5)] 47)
                  have hfw := HF.out.alloc hlt (.cells #[.int .i64 (x 0), .int .i64 (x 1), .int .i64 (x 2), .int .i64 (x 3), .int .i64 (x 4), .int .i64 (x 5)] 47)
                  have bx := Blk.new wr 47 #[.int .i64 (x 0), .int .i64 (x 1), .int .i64 (x 2), .int .i64 (x 3), .int .i64 (x 4), .int .i64 (x 5)]
                  generalize wr.alloc _ = wx at *
                  generalize wr.heap.size = gx at *
                  have b0 := bx.cell 0
                  have b1' := bx.cell 1
                  have b2 := bx.cell 2
                  have b3 := bx.cell 3
                  have b4 := bx.cell 4
                  have b5 := bx.cell 5
                  simp at b0 b1' b2 b3 b4 b5
                  have hsx := hfw.size
                  have HFW := Lib.hid hfw
                  clear bx hfw n0 nd p0 p1 p2 p3 p4 p5
                  go_wp2_with (at_builtin; refine wpList_app_lit _ rfl (.tmp 70) (.tmp 72) entTy rfl wt.heap.size (.slice A' m c') _ _ rfl ho 1 1 _ rfl rfl (by simp [Value.oneCell']) (by omega) (by omega) (by omega) ?_; intro A2 c2 w6 hown2 hg2 hat2)
                  go_roundw
                  case rel =>
                    refine ⟨j + 1, m + 1, c2, A2, by omega, by go_num, rfl, by omega, ?_, ?_, HFW.out.trans (Fr.of_app hg2 ho (by omega))⟩
                    · show _ = _
                      rw [HS.out, HIP.out]
                      simp [HH1.out]
                      exact HM.out
                    · show World.ownsRow _ _ _ _ _ _ _
                      rw [HS.out, HIP.out]
                      simpa [HH1.out, cellsE, entC] using hown2
                  case measure => simp [intOf]; omega
                · have HH1 := Lib.hid h1
                  go_wp2_with fail
                  go_roundw
                  case rel =>
                    have e : inPart (x 0) r t x = false := by rw [HIP.out]; simp [HH1.out]
                    refine ⟨j + 1, m, c', A', by omega, by go_num, rfl, by omega, ?_, ?_, HF.out.alloc hlt _⟩
                    · show _ = _
                      rw [HS.out, e]
                      simpa using HM.out
                    · show World.ownsRow _ _ _ _ _ _ _
                      rw [HS.out, e]
                      simpa using HO.out.alloc _
                  case measure => simp [intOf]; omega
              · have HH0 := Lib.hid h0
                go_wp2_with fail
                go_roundw
                case rel =>
                  have e : inPart id r t x = false := by rw [HIP.out]; simp [HH0.out]
                  refine ⟨j + 1, m, c', A', by omega, by go_num, rfl, by omega, ?_, ?_, HF.out.alloc hlt _⟩
                  · show _ = _
                    rw [HS.out, e]
                    simpa using HM.out
                  · show World.ownsRow _ _ _ _ _ _ _
                    rw [HS.out, e]
                    simpa using HO.out.alloc _
                case measure => simp [intOf]; omega
            · obtain rfl : j = k := by omega
              have hlj : l.take j = l := by rw [HN.out]; exact List.take_length
              have hM := HM.out
              have hO := HO.out
              rw [hlj] at hM hO
              have INVR : RowKit.Hid (PInv w2 gr P (fun t => partC id r t l) R wr) := INVT.out.keep HF.out
              have ho1 := INVR.out.own t htp
              obtain ⟨A1, c1, hRt, _, _, _⟩ := ownsRow_shape ho1
              have hcr := INVR.out.blk.cell t
              rw [rowsA_get R htp, hRt, ← hM] at hcr
              rw [hRt] at ho1
              have hsame := fun w7 h1 h2 => same_yes (c1 := c1) (c2 := c') (A1 := A1) (A2 := A') (B1 := wr.heap.size) (B2 := wr.heap.size) (w := w7) (l := partC id r t l) h1 h2 (by rw [← hM]; omega)
              have hlen : (partC id r t l).length ≤ 100 := by rw [← hM]; omega
              rw [← hM] at hsame ho1
              have HSM := Lib.hid (hsame wr (Reads.of_own ho1) (Reads.of_own hO))
              clear hlj hM hO ho1 hRt hsame hlen
              go_wp2_with fail
              refine HSM.out.mono ?_
              rintro e w8 ⟨rfl, f8⟩
              have HF8 := Lib.hid (HFt.out.trans ((HF.out.mono (by have := HFt.out.size; omega) (by simp)).trans (f8.mono (B' := w4.heap.size) (L' := []) (by have := HFt.out.size; have := HF.out.size; omega) (by simp))))
              clear f8
              go_wp2_with fail
              go_roundw
              case rel => exact ⟨t + 1, by omega, by go_num, HF8⟩
              case measure => simp [intOf]; omega
        · obtain rfl : t = P := by omega
          go_wp2_with fail
          go_ret
          exact ⟨rfl, (F4.out.trans (HF.out.mono F4.out.size (by simp))).below⟩
end Go.Proofs.Ytkmkdodhahcpdaa
