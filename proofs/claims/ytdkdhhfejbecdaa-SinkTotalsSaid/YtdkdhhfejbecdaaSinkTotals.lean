/- The law SinkTotals: the walk. -/
import Derived.Test.YtdkdhhfejbecdaaSinTP
import Derived.Test.YtdkdhhfejbecdaaBz
import Derived.Test.YtdkdhhfejbecdaaRadd
import Derived.Test.YtdkdhhfejbecdaaBookC
import Derived.Test.YtdkdhhfejbecdaaLinesArg
namespace Go.Proofs.Ytdkdhhfejbecdaa
open Go.RowKit Go.Fb
set_option maxRecDepth 100000 in
theorem tot_one_eq (a b k m re im : Int) (w : World) : (Op.equalIn 10000 40 (.agg #[.int .i64 a, .int .i64 b, .int .i64 k, .int .i64 m, .int .i64 re, .int .i64 im]) (.agg #[.int .i64 a, .int .i64 b, .int .i64 k, .int .i64 m, .int .i64 re, .int .i64 im])).run Try.prog w = .ok true w := by
  rw [run_equalIn_struct w 9999 40 _ _ (by kernel_rfl) (by kernel_rfl)]
  have hsO : ∀ w, (sizeOf 32).run Try.prog w = .ok 2 w := fun w => by kernel_rfl
  have p0 : ∀ w, (part 3 #[.int .i64 a, .int .i64 b, .int .i64 k, .int .i64 m, .int .i64 re, .int .i64 im] 0).run Try.prog w = .ok (.int .i64 a) w := fun w => by
    simp [part, isAgg, run_underlying Try.underlying3]
  have p1 : ∀ w, (part 3 #[.int .i64 a, .int .i64 b, .int .i64 k, .int .i64 m, .int .i64 re, .int .i64 im] 1).run Try.prog w = .ok (.int .i64 b) w := fun w => by
    simp [part, isAgg, run_underlying Try.underlying3]
  have p2 : ∀ w, (part 3 #[.int .i64 a, .int .i64 b, .int .i64 k, .int .i64 m, .int .i64 re, .int .i64 im] 2).run Try.prog w = .ok (.int .i64 k) w := fun w => by
    simp [part, isAgg, run_underlying Try.underlying3]
  have p3 : ∀ w, (part 3 #[.int .i64 a, .int .i64 b, .int .i64 k, .int .i64 m, .int .i64 re, .int .i64 im] 3).run Try.prog w = .ok (.int .i64 m) w := fun w => by
    simp [part, isAgg, run_underlying Try.underlying3]
  have p4 : ∀ w, (part 32 #[.int .i64 a, .int .i64 b, .int .i64 k, .int .i64 m, .int .i64 re, .int .i64 im] 4).run Try.prog w = .ok (.agg #[.int .i64 re, .int .i64 im]) w := fun w => by
    simp [part, isAgg, run_underlying Try.underlying32, hsO]
  have e0 := run_equalIn_int w 9998 3 .i64 .i64 a a Try.underlying3
  have e1 := run_equalIn_int w 9998 3 .i64 .i64 b b Try.underlying3
  have e2 := run_equalIn_int w 9998 3 .i64 .i64 k k Try.underlying3
  have e3 := run_equalIn_int w 9998 3 .i64 .i64 m m Try.underlying3
  have e4 : (Op.equalIn 9999 32 (.agg #[.int .i64 re, .int .i64 im]) (.agg #[.int .i64 re, .int .i64 im])).run Try.prog w = .ok true w := by
    rw [run_equalIn_struct w 9998 32 _ _ (by kernel_rfl) (by kernel_rfl)]
    simp [Program.fieldsOf, Try.underlying32]
    simp [Op.eqFields, part, isAgg, run_underlying Try.underlying3, run_equalIn_int w 9997 3 .i64 .i64 _ _ Try.underlying3]
  simp [Program.fieldsOf, Try.underlying40, Op.eqFields, p0, p1, p2, p3, p4, e0, e1, e2, e3, e4]
theorem tot_one_neq (a b k m re im : Int) (w : World) : (binOp .neq 40 (.agg #[.int .i64 a, .int .i64 b, .int .i64 k, .int .i64 m, .int .i64 re, .int .i64 im]) (.agg #[.int .i64 a, .int .i64 b, .int .i64 k, .int .i64 m, .int .i64 re, .int .i64 im])).run Try.prog w = .ok (.bool false) w := by
  simp [binOp, Op.equal, Op.maxDepth, tot_one_eq]
theorem tots_none {K : List Pl} {L : List (Nat → Int)} (hK : KeysOk [] K) (hp : L.Perm (K.map (totF []))) : L = [] := by
  have : K = [] := by
    cases K with
    | nil => rfl
    | cons p K => exact absurd rfl ((hK.mem p).1 (by simp))
  subst this
  simpa using hp
theorem own_apart {w : World} {b1 b2 e1 e2 s1 s2 n1 n2 : Nat} {V1 V2 : Value} {x1 x2 : List Value} (h1 : w.ownsRow b1 e1 s1 V1 n1 x1) (h2 : w.ownsRow b2 e2 s2 V2 n2 x2) (hne : e1 ≠ e2) : V1.ownBlock = none ∨ V1.ownBlock ≠ V2.ownBlock := by
  rcases h1.2 with ⟨rfl, _⟩ | ⟨g1, c1, k1, rfl, _, hg1, _⟩
  · exact .inl rfl
  · refine .inr fun e => ?_
    rcases h2.2 with ⟨rfl, _⟩ | ⟨g2, c2, k2, rfl, _, hg2, _⟩
    · simp [Value.ownBlock] at e
    · simp only [Value.ownBlock] at e
      have e' : g1 = g2 := by simpa using e
      subst e'
      rw [hg1] at hg2
      injection hg2 with hg2
      injection hg2 with _ h
      exact hne h
set_option maxRecDepth 100000 in
set_option maxHeartbeats 8000000 in
theorem walk_SinkTotals (A : Option Addr) (c : Nat) (l : List (Nat → Int)) (hnc : l.length ≤ c) (hc : c ≤ maxLen) (w : World) (hr : Reads w w.heap.size 5 A l.length (cellsLn l)) :
    Calls Try.prog 6 #[.slice A l.length c] w fun e w' => e = .returned (.bool true) ∧ Below w.heap.size w w' := by
  have hm := Nat.le_trans hnc hc
  unfold maxLen at hm
  have HK := Lib.hid hr
  obtain ⟨n, hn⟩ : ∃ n, n = l.length := ⟨_, rfl⟩
  rw [← hn] at hm ⊢
  have HN := Lib.hid hn
  clear hr hnc hc hn
  go_enter Try.func6, Try.ntmps6
  go_wp2_with fail
  refine (awake21 _).mono ?_
  rintro e w2 ⟨rfl, b1⟩
  have BL2 := Lib.hid b1
  clear b1
  by_cases h60 : n ≤ 60
  case neg =>
    have hd60 : decide (60 < (n : Int)) = true := decide_eq_true (by omega)
    go_wp2_with fail
    go_ret
    exact ⟨rfl, BL2.out⟩
  have hd60 : decide (60 < (n : Int)) = false := decide_eq_false (by omega)
  have HN2 := Lib.hid (bnew_any w2)
  go_wp2_with fail
  refine HN2.out.mono ?_
  rintro e w3 ⟨gb, gm, rfl, B3, f3⟩
  have BL3 := Lib.hid (BL2.out.trans (f3.below.mono BL2.out.size))
  have HK3 := Lib.hid (HK.out.below BL3.out)
  have hw3 := BL3.out.size
  have h23 := f3.size
  have BK3 := Lib.hid B3
  clear f3 HN2 B3 HK
  have hl60 : l.length ≤ 60 := by rw [← HN.out]; exact h60
  cases hal : l.all lineB with
  | false =>
    have HCM := bcommit_arg w3 BK3.out 5 A c w.heap.size l (by exact HK3.out) hw3 (by omega) (by decide) hal
    rw [← HN.out] at HCM
    have HCM := Lib.hid HCM
    clear hal
    go_wp2_with fail
    refine HCM.out.mono ?_
    rintro o wc ⟨rfl, fc⟩
    have BLc := Lib.hid (BL3.out.trans (fc.below.mono BL3.out.size))
    have HTT := Lib.hid (totals_any wc (BK3.out.keep fc) (by simp))
    clear fc HCM BL3 BK3 HK3 hw3 h23 HN hm hl60
    go_wp2_with fail
    refine HTT.out.mono ?_
    rintro e wt ⟨K, L, At, ct, hK, hp, hso, rfl, hrd, hft⟩
    obtain rfl : L = [] := tots_none hK hp
    have BLt := Lib.hid (BLc.out.trans (hft.below.mono BLc.out.size))
    clear hK hp hso hrd hft
    go_wp2_with fail
    go_ret
    exact ⟨rfl, BLt.out⟩
  | true =>
    have HCM := bcommit_ok w3 BK3.out h23 5 A c w.heap.size l (by exact HK3.out) hw3 (by simp; omega) (by decide) hal (by simp)
    rw [← HN.out] at HCM
    have HCM := Lib.hid HCM
    have HAL := Lib.hid hal
    clear hal
    go_wp2_with fail
    refine HCM.out.mono ?_
    rintro o wc ⟨V1, rfl, bkc, fc, hat⟩
    have hnb : ∀ q ∈ gb :: gm :: (Value.slice none 0 0).ownBlock.toList, w2.heap.size ≤ q := by
      have := BK3.out.low
      intro q hq
      simp only [List.mem_cons] at hq
      rcases hq with rfl | rfl | hq
      · omega
      · omega
      · simp [Value.ownBlock] at hq
    have hs2 := BL2.out.size
    have FBC := fc.mono (B' := w.heap.size) (L' := []) BL3.out.size (by intro q hq hlt; have := hnb q hq; omega)
    have BLc := Lib.hid (BL3.out.trans FBC.below)
    rw [List.nil_append] at bkc
    have BK := Lib.hid bkc
    have HKc := Lib.hid (HK3.out.below FBC.below)
    have HLM := Lib.hid (show l.length ≤ 1000000 by omega)
    have HON := Lib.hid (fun wx (hx : Fr wc.heap.size [] wc wx) (s f k : Int) => (by rw [HN.out]; exact ronly_any A c w.heap.size l s f k wx (HKc.out.below (hx.below.mono BLc.out.size)) (BLc.out.trans (hx.below.mono BLc.out.size)).size HLM.out : Calls Try.prog 16 #[.slice A n c, .int .i64 s, .int .i64 f, .int .i64 k] wx (OnlyOut l (s, f, k) wx)))
    clear fc HCM bkc BL3 BK3 HK3 hw3 h23 hnb hat FBC HKc hl60
    go_wp2_with fail
    go_loopg [4, 5, 6] 8 (fun g s4 s5 s6 wr => ∃ (s nS nW : Nat) (AS AW : Option Addr) (cS cW : Nat), s ≤ 8 ∧ g = 8 - s ∧ s6 = .int .i64 s ∧ s4 = .slice AS nS cS ∧ s5 = .slice AW nW cW ∧ RowKit.Hid (nS = (snkT l s).length) ∧ RowKit.Hid (nW = (wantT l (s * 512)).length) ∧ RowKit.Hid (wr.ownsRow wc.heap.size 3 1 (.slice AS nS cS) nS ((snkT l s).map (Value.int .i64))) ∧ RowKit.Hid (wr.ownsRow wc.heap.size 40 6 (.slice AW nW cW) nW ((wantT l (s * 512)).flatMap totC)) ∧ RowKit.Hid (Fr wc.heap.size [] wc wr))
    case atStart => exact ⟨0, 0, 0, none, none, 0, 0, by omega, rfl, rfl, rfl, rfl, Lib.hid rfl, Lib.hid rfl, Lib.hid (World.ownsRow_nil _ _ _ _), Lib.hid (World.ownsRow_nil _ _ _ _), Lib.hid (Fr.refl _ _ _)⟩
    case round =>
      obtain ⟨s, nS, nW, AS, AW, cS, cW, hs, rfl, rfl, rfl, rfl, HNS, HNW, OS, OW, FW⟩ := hrel
      by_cases hs8 : s < 8
      · have hsi : (s : Int) < 8 := by omega
        go_wp2_with fail
        go_loopg [5, 7, 8] 8 (fun g s5 s7 s8 wq => ∃ (f nW : Nat) (AW : Option Addr) (cW : Nat), f ≤ 8 ∧ g = 8 - f ∧ s8 = .int .i64 f ∧ s7 = .bool (hasS l s (s * 512 + f * 64)) ∧ s5 = .slice AW nW cW ∧ RowKit.Hid (nW = (wantT l (s * 512 + f * 64)).length) ∧ RowKit.Hid (wq.ownsRow wc.heap.size 3 1 (.slice AS nS cS) nS ((snkT l s).map (Value.int .i64))) ∧ RowKit.Hid (wq.ownsRow wc.heap.size 40 6 (.slice AW nW cW) nW ((wantT l (s * 512 + f * 64)).flatMap totC)) ∧ RowKit.Hid (Fr wc.heap.size [] wc wq))
        case atStart => exact ⟨0, nW, AW, cW, by omega, rfl, rfl, by rw [Nat.zero_mul, Nat.add_zero, hasS_start], rfl, by rw [Nat.zero_mul, Nat.add_zero]; exact HNW, OS, by rw [Nat.zero_mul, Nat.add_zero]; exact OW, FW⟩
        case round =>
          clear HNW OS OW FW
          obtain ⟨f, nW, AW, cW, hf, rfl, rfl, rfl, rfl, HNW, OS, OW, FW⟩ := hrel
          by_cases hf8 : f < 8
          · have hfi : (f : Int) < 8 := by omega
            obtain ⟨hb, hhb⟩ : ∃ b, b = hasS l s (s * 512 + f * 64) := ⟨_, rfl⟩
            rw [← hhb]
            have HHB := Lib.hid hhb
            clear hhb
            go_wp2_with fail
            go_loopg [5, 7, 9] 64 (fun g s5 s7 s9 wq => ∃ (k nW : Nat) (AW : Option Addr) (cW : Nat), k ≤ 64 ∧ g = 64 - k ∧ s9 = .int .i64 k ∧ s7 = .bool (hasS l s (s * 512 + f * 64 + k)) ∧ s5 = .slice AW nW cW ∧ RowKit.Hid (nW = (wantT l (s * 512 + f * 64 + k)).length) ∧ RowKit.Hid (wq.ownsRow wc.heap.size 3 1 (.slice AS nS cS) nS ((snkT l s).map (Value.int .i64))) ∧ RowKit.Hid (wq.ownsRow wc.heap.size 40 6 (.slice AW nW cW) nW ((wantT l (s * 512 + f * 64 + k)).flatMap totC)) ∧ RowKit.Hid (Fr wc.heap.size [] wc wq))
            case atStart => exact ⟨0, nW, AW, cW, by omega, rfl, rfl, by rw [Nat.add_zero, HHB.out], rfl, by rw [Nat.add_zero]; exact HNW, OS, by rw [Nat.add_zero]; exact OW, FW⟩
            case round =>
              clear HNW OS OW FW HHB
              obtain ⟨k, nW, AW, cW, hk, rfl, rfl, rfl, rfl, HNW, OS, OW, FW⟩ := hrel
              by_cases hk64 : k < 64
              · have hki : (k : Int) < 64 := by omega
                have htr := tri_of (s := s) hf8 hk64
                obtain ⟨t, ht⟩ : ∃ t, t = s * 512 + f * 64 + k := ⟨_, rfl⟩
                have htb : t < 4096 := by omega
                have HT1 := Lib.hid (show s * 512 + f * 64 + (k + 1) = t + 1 by omega)
                have hst : s * 512 ≤ t := by omega
                rw [← ht] at htr HNW OW ⊢
                have hwl := wantT_le l t
                obtain ⟨v, hv⟩ : ∃ v, v = onlyV l (tri t) := ⟨_, rfl⟩
                obtain ⟨nv, hnv⟩ : ∃ nv, nv = v.length := ⟨_, rfl⟩
                have HO1 := HON.out wr FW.out (s : Int) (f : Int) (k : Int)
                unfold OnlyOut at HO1
                rw [← htr, ← hv, ← hnv] at HO1
                have HO1 := Lib.hid HO1
                have hnvm : nv ≤ 1000000 := by rw [hnv, hv]; exact Nat.le_trans (onlyV_le l _) HLM.out
                obtain ⟨hb2, hhb⟩ : ∃ b, b = hasS l s t := ⟨_, rfl⟩
                rw [← hhb]
                have HHB := Lib.hid hhb
                have HV := Lib.hid hv
                have HNV := Lib.hid hnv
                have hnWb : nW ≤ 4096 := by rw [HNW.out]; omega
                have HTR := Lib.hid htr
                clear hhb hv hnv ht hwl htr
                go_wp2_with fail
                refine HO1.out.mono ?_
                rintro e wo ⟨Av, cv, rfl, hown, fo⟩
                have RV := Lib.hid (Reads.of_own hown)
                have OSo := Lib.hid (ownsRow_fr OS.out fo (fun q hq => ⟨(OS.out.lt q hq).2, by simp⟩))
                have OWo := Lib.hid (ownsRow_fr OW.out fo (fun q hq => ⟨(OW.out.lt q hq).2, by simp⟩))
                have FWo := Lib.hid (FW.out.trans (fo.mono (B' := wc.heap.size) (L' := []) FW.out.size (by simp)))
                clear OS OW FW hown fo HO1
                by_cases hv0 : nv = 0
                · subst hv0
                  have h0 : (onlyV l (tri t)).length = 0 := by rw [← HV.out, ← HNV.out]
                  have HW1 := Lib.hid (wantT_no h0)
                  have HS1 := Lib.hid (hasS_no (s := s) h0)
                  clear h0
                  go_wp2_with fail
                  go_roundg (64 - (k + 1))
                  case measure => omega
                  case rel => exact ⟨k + 1, nW, AW, cW, by omega, rfl, by go_num, by rw [HT1.out, HS1.out, HHB.out], rfl, by rw [HT1.out, HW1.out]; exact HNW, OSo, by rw [HT1.out, HW1.out]; exact OWo, FWo⟩
                · have h0 : (onlyV l (tri t)).length ≠ 0 := by rw [← HV.out, ← HNV.out]; exact hv0
                  have HW1 := Lib.hid (wantT_yes h0)
                  have HS1 := Lib.hid (hasS_yes h0 hst)
                  have hd0 : decide ((nv : Int) = 0) = false := decide_eq_false (by omega)
                  have hd1 : ((nv : Int) == 0) = false := by simpa using hv0
                  clear h0
                  go_upto_region 23 with fail
                  have fa := (Fr.refl wo.heap.size [] wo).alloc (Nat.le_refl _) (.cells #[.int .i64 (s : Nat), .int .i64 (f : Nat), .int .i64 (k : Nat), .int .i64 (nv : Nat), .int .i64 0, .int .i64 0] 40)
                  have BT0 := Lib.hid (Blk.new wo 40 #[.int .i64 (s : Nat), .int .i64 (f : Nat), .int .i64 (k : Nat), .int .i64 (nv : Nat), .int .i64 0, .int .i64 0])
                  have FA := Lib.hid fa
                  have how := FWo.out.size
                  obtain ⟨gt, hgt⟩ : ∃ g, g = wo.heap.size := ⟨_, rfl⟩
                  rw [← hgt] at BT0 ⊢
                  have hgt1 : wo.heap.size ≤ gt := by omega
                  clear hgt fa
                  generalize wo.alloc (.cells #[.int .i64 (s : Nat), .int .i64 (f : Nat), .int .i64 (k : Nat), .int .i64 (nv : Nat), .int .i64 0, .int .i64 0] 40) = wa at *
                  go_wp2_with fail
                  go_loopg [58] nv (fun g s58 wz => ∃ i : Nat, i ≤ nv ∧ g = nv - i ∧ s58 = .int .i64 i ∧ RowKit.Hid (Blk wz gt 40 #[.int .i64 (s : Nat), .int .i64 (f : Nat), .int .i64 (k : Nat), .int .i64 (nv : Nat), .int .i64 (sumV (v.take i)).1, .int .i64 (sumV (v.take i)).2]) ∧ RowKit.Hid (Fr wo.heap.size [] wo wz))
                  case atStart => exact ⟨0, Nat.zero_le _, rfl, rfl, BT0, FA⟩
                  case round =>
                    clear BT0 FA
                    obtain ⟨i, hi, rfl, rfl, BT, FZ⟩ := hrel
                    by_cases hin : i < nv
                    · have hii : (i : Int) < (nv : Int) := by omega
                      obtain ⟨y, hy⟩ : ∃ y, v[i]? = some y := ⟨_, List.getElem?_eq_getElem (by rw [← HNV.out]; exact hin)⟩
                      have hrv := RV.out.fr FZ.out (Nat.le_refl _) (by simp)
                      rw [HNV.out] at hrv
                      obtain ⟨b, off, rfl, hb, p0, p1⟩ := reads_val (hrv.more (B' := wr.heap.size) FZ.out.size) hy
                      have HTK := sumV_take hy
                      obtain ⟨u, hu⟩ : ∃ u, u = sumV (v.take i) := ⟨_, rfl⟩
                      rw [← hu] at BT HTK
                      have hgu : gt ≠ wr.heap.size := by have := BT.out.lt; omega
                      clear hrv hy hu
                      go_upto_region 26 with fail
                      have BY := Lib.hid (Blk.new wr 32 #[.int .i64 y.1, .int .i64 y.2])
                      have BTa := Lib.hid (BT.out.alloc (.cells #[.int .i64 y.1, .int .i64 y.2] 32))
                      have FZa := Lib.hid (FZ.out.alloc FZ.out.size (.cells #[.int .i64 y.1, .int .i64 y.2] 32))
                      clear BT FZ p0 p1 hb
                      generalize wr.alloc (.cells #[.int .i64 y.1, .int .i64 y.2] 32) = wb at *
                      generalize wr.heap.size = gy at *
                      have y0 := BY.out.cell 0
                      have y1 := BY.out.cell 1
                      have t4 := BTa.out.cell 4
                      have t5 := BTa.out.cell 5
                      simp at y0 y1 t4 t5
                      have HRA := refadd_any u y
                      generalize addV u y = r at HRA HTK
                      have HRA := Lib.hid HRA
                      have HTK := Lib.hid HTK
                      go_wp2_with fail
                      refine (HRA.out _).mono ?_
                      rintro e wd ⟨rfl, fd⟩
                      have BTd := Lib.hid (BTa.out.fr fd BTa.out.lt (by simp))
                      have FZd := Lib.hid (FZa.out.trans (fd.mono (B' := wo.heap.size) (L' := []) FZa.out.size (by simp)))
                      clear fd HRA BY BTa FZa y0 y1 t4 t5
                      have z4 := BTd.out.frozen 4
                      have z5 := BTd.out.frozen 5
                      have t4 := BTd.out.cell 4
                      have t5 := BTd.out.cell 5
                      simp at t4 t5
                      go_wp2_with fail
                      have BTe := Lib.hid (show Blk _ _ _ #[.int .i64 (s : Nat), .int .i64 (f : Nat), .int .i64 (k : Nat), .int .i64 (nv : Nat), .int .i64 r.1, .int .i64 r.2] from by have := (BTd.out.set_ 4 (.int .i64 r.1)).set_ 5 (.int .i64 r.2); simpa using this)
                      have FZe := Lib.hid ((FZd.out.setCell (p := ⟨gt, 4, none⟩) (.inl hgt1) (.int .i64 r.1)).setCell (p := ⟨gt, 5, none⟩) (.inl hgt1) (.int .i64 r.2))
                      go_roundg (nv - (i + 1))
                      case measure => omega
                      case rel => exact ⟨i + 1, by omega, rfl, by go_num, by rw [HTK.out]; exact BTe, FZe⟩
                    · obtain rfl : nv = i := by omega
                      have htk : v.take nv = v := List.take_of_length_le (by rw [HNV.out]; exact Nat.le_refl _)
                      rw [htk] at BT
                      obtain ⟨u, hu⟩ : ∃ u, u = sumV v := ⟨_, rfl⟩
                      rw [← hu] at BT
                      have HCT := Lib.hid (show (wantT l (t + 1)).flatMap totC = (wantT l t).flatMap totC ++ [.int .i64 (s : Nat), .int .i64 (f : Nat), .int .i64 (k : Nat), .int .i64 (nv : Nat), .int .i64 u.1, .int .i64 u.2] by
                        rw [HW1.out, List.flatMap_append, hu, HNV.out, HV.out, HTR.out]
                        simp [totC, totF])
                      have HCN := Lib.hid (show nW + 1 = (wantT l (t + 1)).length by rw [HW1.out, List.length_append, HNW.out]; rfl)
                      have OSr := Lib.hid (ownsRow_fr OSo.out FZ.out (fun q hq => ⟨(OSo.out.lt q hq).2, by simp⟩))
                      have OWr := Lib.hid (ownsRow_fr OWo.out FZ.out (fun q hq => ⟨(OWo.out.lt q hq).2, by simp⟩))
                      have FWr := Lib.hid (FWo.out.trans (FZ.out.mono (B' := wc.heap.size) (L' := []) FWo.out.size (by simp)))
                      have hsz := FWr.out.size
                      have t0 := BT.out.cell 0
                      have t1 := BT.out.cell 1
                      have t2 := BT.out.cell 2
                      have t3 := BT.out.cell 3
                      have t4 := BT.out.cell 4
                      have t5 := BT.out.cell 5
                      simp at t0 t1 t2 t3 t4 t5
                      have hown := OWr.out
                      clear hu htk OSo OWo FWo FZ BT
                      go_wp2_with (at_builtin; refine wpList_app_lit _ rfl (.tmp 68) (.tmp 70) totTy rfl wc.heap.size (.slice AW nW cW) nW _ rfl hown 1 1 _ rfl rfl (by simp [Value.oneCell']) (by omega) (by omega) hsz ?_; intro A3 c3 w3 hown3 hg3 hat3)
                      have F4 := Lib.hid (FWr.out.trans (Fr.of_app hg3 hown hsz))
                      have OS4 := Lib.hid ((OSr.out.alloc _).kept hg3 (own_apart OSr.out hown (by decide)))
                      have OW4 := Lib.hid hown3
                      clear hown3 hg3 hat3 hown
                      go_roundg (64 - (k + 1))
                      case measure => omega
                      case rel => exact ⟨k + 1, nW + 1, A3, c3, by omega, rfl, by go_num, by rw [HT1.out, HS1.out], rfl, by rw [HT1.out]; exact HCN, OS4, by rw [HT1.out, HCT.out]; exact OW4, F4⟩
              · obtain rfl : k = 64 := by omega
                go_wp2_with fail
                go_roundg (8 - (f + 1))
                case measure => omega
                case rel => exact ⟨f + 1, nW, AW, cW, by omega, rfl, by go_num, by rw [show s * 512 + (f + 1) * 64 = s * 512 + f * 64 + 64 by omega], rfl, by rw [show s * 512 + (f + 1) * 64 = s * 512 + f * 64 + 64 by omega]; exact HNW, OS, by rw [show s * 512 + (f + 1) * 64 = s * 512 + f * 64 + 64 by omega]; exact OW, FW⟩
          · obtain rfl : f = 8 := by omega
            have HT8 := Lib.hid (show (s + 1) * 512 = s * 512 + 8 * 64 by omega)
            have HSN := snkT_succ l s
            rw [HT8.out] at HSN
            cases hhs : hasS l s (s * 512 + 8 * 64) with
            | false =>
              rw [hhs, if_neg (by simp), List.append_nil] at HSN
              have HSN := Lib.hid HSN
              clear hhs
              go_wp2_with fail
              go_roundg (8 - (s + 1))
              case measure => omega
              case rel => exact ⟨s + 1, nS, nW, AS, AW, cS, cW, by omega, rfl, by go_num, rfl, rfl, by rw [HSN.out]; exact HNS, by rw [HT8.out]; exact HNW, by rw [HSN.out]; exact OS, by rw [HT8.out]; exact OW, FW⟩
            | true =>
              rw [hhs, if_pos rfl] at HSN
              have HSN := Lib.hid HSN
              have hown := OS.out
              have hsz := FW.out.size
              have hnSb : nS ≤ 8 := by rw [HNS.out]; exact Nat.le_trans (snkT_le l s) hs
              clear hhs
              go_wp2_with (at_builtin; refine wpList_app_lit _ rfl (.tmp 73) (.tmp 75) sintTy rfl wc.heap.size (.slice AS nS cS) nS _ rfl hown 1 1 _ rfl rfl (by simp [Value.oneCell']) (by omega) (by omega) hsz ?_; intro A3 c3 w3 hown3 hg3 hat3)
              have F4 := Lib.hid (FW.out.trans (Fr.of_app hg3 hown hsz))
              have OW4 := Lib.hid ((OW.out.alloc _).kept hg3 (own_apart OW.out hown (by decide)))
              have OS4 := Lib.hid hown3
              clear hown3 hg3 hat3 hown
              go_roundg (8 - (s + 1))
              case measure => omega
              case rel => exact ⟨s + 1, nS + 1, nW, A3, AW, c3, cW, by omega, rfl, by go_num, rfl, rfl, by rw [HSN.out, List.length_append, ← HNS.out]; rfl, by rw [HT8.out]; exact HNW, by rw [HSN.out, List.map_append]; exact OS4, by rw [HT8.out]; exact OW4, F4⟩
      · obtain rfl : s = 8 := by omega
        have hnSb : nS ≤ 8 := by rw [HNS.out]; exact snkT_le l 8
        have hnWb : nW ≤ 4096 := by rw [HNW.out]; exact wantT_le l (8 * 512)
        have HSK := snkT_eq HAL.out
        rw [HSK] at HNS OS
        have hown1 := OS.out
        have RS := Lib.hid (Reads.of_own hown1)
        have RW := Lib.hid (Reads.of_own OW.out)
        have HTT := Lib.hid (totals_any wr (BK.out.keep FW.out) HLM.out)
        have BLr := Lib.hid (BLc.out.trans (FW.out.below.mono BLc.out.size))
        have BKr := Lib.hid (BK.out.keep FW.out)
        clear HSK hown1 OS OW HON BLc FW BK
        go_wp2_with fail
        refine HTT.out.mono ?_
        rintro e wt ⟨K, L, At, ct, hK, hp, hso, rfl, hrd, hft⟩
        obtain rfl : L = wantT l (8 * 512) := wantT_eq HAL.out hK hp hso
        rw [← HNW.out] at hrd ⊢
        have RT := Lib.hid hrd
        have RSt := Lib.hid (RS.out.fr hft (Nat.le_refl _) (by simp))
        have RWt := Lib.hid (RW.out.fr hft (Nat.le_refl _) (by simp))
        have FT := Lib.hid hft
        have HSS := sinks_any wt (BKr.out.keep hft) HLM.out
        unfold SinksOut at HSS
        rw [← HNS.out] at HSS
        have HSS := Lib.hid HSS
        clear hK hp hso hrd hft RS RW HTT BKr
        go_wp2_with fail
        refine HSS.out.mono ?_
        rintro e ws ⟨A4, c4, rfl, hr4, f4⟩
        have hts := FT.out.size
        have RTs := Lib.hid ((RT.out.fr f4 (Nat.le_refl _) (by simp)).more f4.size)
        have RWs := Lib.hid ((RWt.out.fr f4 hts (by simp)).more (B' := ws.heap.size) (Nat.le_trans hts f4.size))
        have HIY := Lib.hid (fun c1 c2 => (ints_yes (c1 := c1) (c2 := c2) HNS.out hr4 ((RSt.out.fr f4 hts (by simp)).more (B' := ws.heap.size) (Nat.le_trans hts f4.size)) (Nat.le_refl _) (Nat.le_refl _) (by omega) : Calls Try.prog 33 #[.slice A4 nS c1, .slice AS nS c2] ws fun e w' => e = .returned (.bool true) ∧ Fr ws.heap.size [] ws w'))
        have FS := Lib.hid (FT.out.trans (f4.mono FT.out.size (by simp)))
        clear hr4 f4 HSS RT RSt RWt
        have hww : ((nW : Int) != (nW : Int)) = false := by simp
        go_wp2_with fail
        refine (HIY.out _ _).mono ?_
        rintro e wi ⟨rfl, fi⟩
        have RTi := Lib.hid (RTs.out.fr fi (Nat.le_refl _) (by simp))
        have RWi := Lib.hid (RWs.out.fr fi (Nat.le_refl _) (by simp))
        have hsi := fi.size
        have BLi := Lib.hid (BLr.out.trans ((FS.out.trans (fi.mono FS.out.size (by simp))).below.mono BLr.out.size))
        clear fi HIY RTs RWs FS FT BLr
        go_wp2_with fail
        go_loopg [93] nW (fun g s93 wz => ∃ i : Nat, i ≤ nW ∧ g = nW - i ∧ s93 = .int .i64 i ∧ RowKit.Hid (Fr wi.heap.size [] wi wz))
        case atStart => exact ⟨0, Nat.zero_le _, rfl, rfl, Lib.hid (Fr.refl _ _ _)⟩
        case round =>
          obtain ⟨i, hi, rfl, rfl, FZ⟩ := hrel
          by_cases hin : i < nW
          · have hii : (i : Int) < (nW : Int) := by omega
            have hi0 : (0 : Int) ≤ (i : Int) := by omega
            obtain ⟨x, hx⟩ : ∃ x, (wantT l (8 * 512))[i]? = some x := ⟨_, List.getElem?_eq_getElem (by rw [← HNW.out]; exact hin)⟩
            have h1 := RTi.out.fr FZ.out hsi (by simp)
            have h2 := RWi.out.fr FZ.out hsi (by simp)
            rw [HNW.out] at h1 h2
            obtain ⟨b1, o1, rfl, hb1, pc⟩ := reads_tot h1 hx
            obtain ⟨b2, o2, rfl, hb2, qc⟩ := reads_tot h2 hx
            have p0 := pc 0 (by omega)
            have p1 := pc 1 (by omega)
            have p2 := pc 2 (by omega)
            have p3 := pc 3 (by omega)
            have p4 := pc 4 (by omega)
            have p5 := pc 5 (by omega)
            have q0 := qc 0 (by omega)
            have q1 := qc 1 (by omega)
            have q2 := qc 2 (by omega)
            have q3 := qc 3 (by omega)
            have q4 := qc 4 (by omega)
            have q5 := qc 5 (by omega)
            simp only [Nat.add_zero] at p0 q0
            have hnq := fun w => tot_one_neq (x 0) (x 1) (x 2) (x 3) (x 4) (x 5) w
            clear pc qc h1 h2 hx
            go_upto_region 38 with fail
            go_quiet (fail)
            go_wp2_with fail
            go_roundg (nW - (i + 1))
            case measure => omega
            case rel => exact ⟨i + 1, by omega, rfl, by go_num, Lib.hid (FZ.out.drewN nq)⟩
          · obtain rfl : nW = i := by omega
            have BLz := Lib.hid (BLi.out.trans (FZ.out.below.mono BLi.out.size))
            go_wp2_with fail
            go_ret
            exact ⟨rfl, BLz.out⟩
end Go.Proofs.Ytdkdhhfejbecdaa
