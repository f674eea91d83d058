/- The law SinkSince: the walk. -/
import Derived.Test.YtdkdhhfejbecdaaSincP
import Derived.Test.YtdkdhhfejbecdaaBookC
import Derived.Test.YtdkdhhfejbecdaaLinesArg
import Derived.Deep.RegionHeld3
namespace Go.Proofs.Ytdkdhhfejbecdaa
open Go.RowKit Go.Fb
theorem neq_int_zero {k : Nat} (h : k ≠ 0) : ((k : Int) == 0) = false := by simp [h]
theorem neq_self_i (a : Int) : (a != a) = false := by simp
set_option maxRecDepth 100000 in
set_option maxHeartbeats 8000000 in
theorem walk_SinkSince (A : Option Addr) (n c : Nat) (K : Nat → Int × List (Nat → Int)) (hnc : n ≤ c) (hc : c ≤ maxLen) (w : World) (hK : Comm w w.heap.size A n K) (a : Int) :
    Calls Try.prog 4 #[.slice A n c, .int .i64 a] w fun e w' => e = .returned (.bool true) ∧ Below w.heap.size w w' := by
  have hm := Nat.le_trans hnc hc
  unfold maxLen at hm
  have HK := Lib.hid hK
  clear hK hnc hc
  go_enter Try.func4, Try.ntmps4
  go_wp2_with fail
  refine (awake21 _).mono ?_
  rintro e w2 ⟨rfl, b1⟩
  have BL2 := Lib.hid b1
  clear b1
  by_cases h60 : n ≤ 60
  case neg =>
    have hd60 : decide (60 < (n : Int)) = true := decide_eq_true (by omega)
    go_wp2_with fail
    go_ret
    exact ⟨rfl, BL2.out⟩
  have hd60 : decide (60 < (n : Int)) = false := decide_eq_false (by omega)
  have HN2 := Lib.hid (bnew_any w2)
  go_wp2_with fail
  refine HN2.out.mono ?_
  rintro e w3 ⟨gb, gm, rfl, B3, f3⟩
  have B0 := Lib.hid B3
  have F0 := Lib.hid f3
  clear B3 f3 HN2
  go_wp2_with fail
  go_loopg [7, 21] n (fun g s7 s21 wr => ∃ (i nl : Nat) (l : List (Nat → Int)) (E : List (Int × Nat)) (ep : Int) (V : Value), i ≤ n ∧ g = n - i ∧ s21 = .int .i64 i ∧ nl ≤ i * 20 ∧ (s7 = undef ∨ ∃ a, s7 = .pointer a) ∧ RowKit.Hid (nl = l.length) ∧ RowKit.Hid (EI l E ep) ∧ RowKit.Hid (Bk w2.heap.size gb gm l E ep V wr) ∧ RowKit.Hid (Fr w2.heap.size [] w2 wr))
  case atStart => exact ⟨0, 0, [], [], 0, .slice none 0 0, Nat.zero_le _, rfl, rfl, Nat.le_refl _, .inl rfl, Lib.hid rfl, Lib.hid EI.start, B0, F0⟩
  case round =>
    clear B0 F0
    obtain ⟨i, nl, l, E, ep, V, hi, rfl, rfl, hnl, hs7, HL, HI, BK, FK⟩ := hrel
    by_cases hin : i < n
    · obtain ⟨b, off, Ac, cc, hA, hbb, c0, c1, hle, hcc, hrd⟩ := (HK.out.below (BL2.out.trans (FK.out.below.mono BL2.out.size))) i hin
      subst hA
      obtain ⟨e, he⟩ : ∃ e, e = (K i).1 := ⟨_, rfl⟩
      obtain ⟨ls, hls⟩ : ∃ ls, ls = (K i).2 := ⟨_, rfl⟩
      rw [← he] at c0
      rw [← hls] at c1 hle hrd
      obtain ⟨k, hk⟩ : ∃ k, k = ls.length := ⟨_, rfl⟩
      have HKL := Lib.hid hk
      rw [← hk] at c1 hle hrd
      have hii : (i : Int) < (n : Int) := by omega
      have hccm := hcc
      unfold maxLen at hccm
      have BLr := Lib.hid (BL2.out.trans (FK.out.below.mono BL2.out.size))
      have hwr := BLr.out.size
      clear he hls hk
      go_upto_region 9 with fail
      have fa := (Fr.refl wr.heap.size [] wr).alloc (Nat.le_refl _) (.cells #[.int .i64 e, .slice Ac k cc] 44)
      have BC := Lib.hid (Blk.new wr 44 #[.int .i64 e, .slice Ac k cc])
      have BKa := Lib.hid (BK.out.keep fa)
      have FKa := Lib.hid (FK.out.trans (fa.mono (B' := w2.heap.size) (L' := []) FK.out.size (by simp)))
      have HRA := Lib.hid (hrd.fr fa hwr (by simp))
      have BLa := Lib.hid (BLr.out.trans (fa.below.mono hwr))
      clear BK FK fa c0 c1 hrd BLr hwr
      generalize wr.alloc (.cells #[.int .i64 e, .slice Ac k cc] 44) = wa at *
      generalize wr.heap.size = gc at *
      have x0 := BC.out.cell 0
      have x1 := BC.out.cell 1
      simp at x0 x1
      have hwa := BLa.out.size
      have h2a := FKa.out.size
      by_cases hk20 : k ≤ 20
      case neg =>
        have hd20 : decide (20 < (k : Int)) = true := decide_eq_true (by omega)
        go_wp2_with fail
        go_ret
        exact ⟨rfl, BLa.out⟩
      have hd20 : decide (20 < (k : Int)) = false := decide_eq_false (by omega)
      by_cases hep : e ≤ ep
      · have HCM := Lib.hid (bcommit_there wa BKa.out e (.slice Ac k cc) hep)
        go_wp2_with fail
        refine HCM.out.mono ?_
        rintro o wq ⟨rfl, rfl⟩
        go_wp2_with fail
        go_roundg (n - (i + 1))
        case measure => omega
        case rel => exact ⟨i + 1, nl, l, E, ep, V, by omega, rfl, by go_num, by omega, .inr ⟨_, rfl⟩, HL, HI, BKa, FKa⟩
      · have hlt : ep < e := by omega
        cases hal : ls.all lineB with
        | false =>
          have HCM := (bcommit_arg wa BKa.out e Ac cc w.heap.size ls (by rw [← HKL.out]; exact HRA.out) hwa (by rw [← HKL.out]; omega) hlt hal)
          rw [← HKL.out] at HCM
          have HCM := Lib.hid HCM
          clear hal
          go_wp2_with fail
          refine HCM.out.mono ?_
          rintro o wq ⟨rfl, fc⟩
          have BKq := Lib.hid (BKa.out.keep fc)
          have FKq := Lib.hid (FKa.out.trans (fc.mono (B' := w2.heap.size) (L' := []) FKa.out.size (by simp)))
          clear fc HCM
          go_wp2_with fail
          go_roundg (n - (i + 1))
          case measure => omega
          case rel => exact ⟨i + 1, nl, l, E, ep, V, by omega, rfl, by go_num, by omega, .inr ⟨_, rfl⟩, HL, HI, BKq, FKq⟩
        | true =>
          have HCM := (bcommit_ok wa BKa.out h2a e Ac cc w.heap.size ls (by rw [← HKL.out]; exact HRA.out) hwa (by rw [← HKL.out, ← HL.out]; omega) hlt hal (fun y hy => by have := (HI.out.keys y hy).2.1; omega))
          rw [← HKL.out] at HCM
          have HCM := Lib.hid HCM
          clear hal
          go_wp2_with fail
          refine HCM.out.mono ?_
          rintro o wq ⟨V', rfl, bkc, fc, hat⟩
          have hnb : ∀ q ∈ gb :: gm :: V.ownBlock.toList, w2.heap.size ≤ q := by
            have h1 := BKa.out.low
            intro q hq
            simp only [List.mem_cons, Option.mem_toList] at hq
            rcases hq with rfl | rfl | hq
            · omega
            · omega
            · exact (BKa.out.own.lt q hq).1
          have BKq := Lib.hid bkc
          have FKq := Lib.hid (FKa.out.trans (fc.mono (B' := w2.heap.size) (L' := []) FKa.out.size (fun q hq hlt => by have := hnb q hq; omega)))
          have HLq := Lib.hid (show nl + k = (l ++ ls).length by rw [List.length_append, HL.out, HKL.out])
          have HIq := Lib.hid (HI.out.step (m := ls) hlt)
          clear bkc fc hat hnb HCM
          go_wp2_with fail
          go_roundg (n - (i + 1))
          case measure => omega
          case rel => exact ⟨i + 1, nl + k, l ++ ls, _, e, V', by omega, rfl, by go_num, by omega, .inr ⟨_, rfl⟩, HLq, HIq, BKq, FKq⟩
    · obtain rfl : n = i := by omega
      have hnm : nl ≤ 1200 := by omega
      have hlm : l.length ≤ 1000000 := by rw [← HL.out]; omega
      have HLM := Lib.hid hlm
      have BLr := Lib.hid (BL2.out.trans (FK.out.below.mono BL2.out.size))
      clear hlm BL2 HK
      have hv : ∀ x ∈ E, x.2 ≤ 1000000 := fun x hx => by have := (HI.out.keys x hx).2.2; have := HLM.out; omega
      have HSN := Lib.hid (fun (ask : Int) (wx : World) (h : Fr wr.heap.size [] wr wx) => (by have o := bsince_any wx (BK.out.keep h) HLM.out hv ask; unfold SinceOut at o; rw [← HL.out] at o; exact o : Calls Try.prog 21 #[.pointer (some ⟨gb, 0, none⟩), .int .i64 ask] wx (fun e w' => ∃ f A c, FromOk E ask nl f ∧ e = .returned (.slice A (nl - f) c) ∧ w'.ownsRow wx.heap.size 93 5 (.slice A (nl - f) c) (nl - f) (cellsLn (l.drop f)) ∧ Fr wx.heap.size [] wx w')))
      have HLN := Lib.hid (fun (wx : World) (h : Fr wr.heap.size [] wr wx) => (by have o := blines_any wx (BK.out.keep h) HLM.out; rw [← HL.out] at o; exact o : Calls Try.prog 22 #[.pointer (some ⟨gb, 0, none⟩)] wx (fun e w' => ∃ A' c', e = .returned (.slice A' nl c') ∧ w'.ownsRow wx.heap.size 93 5 (.slice A' nl c') nl (cellsLn l) ∧ Fr wx.heap.size [] wx w')))
      have HEP := Lib.hid (fun (wx : World) (h : Fr wr.heap.size [] wr wx) => bepoch_any wx (BK.out.keep h))
      have HLE := Lib.hid (fun (wx : World) (h : Fr wr.heap.size [] wr wx) => (by have o := blen_any wx (BK.out.keep h); rw [← HL.out] at o; exact o : Calls Try.prog 26 #[.pointer (some ⟨gb, 0, none⟩)] wx (fun e w' => e = .returned (.int .i64 (nl : Nat)) ∧ wx = w')))
      have HTT := Lib.hid (fun wx (h : Fr wr.heap.size [] wr wx) => totals_any wx (BK.out.keep h) HLM.out)
      have HOF := Lib.hid (fun wx (h : Fr wr.heap.size [] wr wx) (x y z : Int) => bof_any wx (BK.out.keep h) HLM.out x y z)
      clear hv BK FK
      go_wp2_with fail
      refine (HSN.out _ _ (Fr.refl _ _ _)).mono ?_
      rintro o wa ⟨f, Aa, ca, hfo, rfl, hown, fa⟩
      obtain ⟨ms, hms⟩ : ∃ ms, ms = nl - f := ⟨_, rfl⟩
      rw [← hms] at hown ⊢
      have hfn := hfo.1
      have RA := Lib.hid (Reads.of_own hown)
      have FA := Lib.hid fa
      have HMS := Lib.hid hms
      have HFO := Lib.hid hfo
      have hmn : ms ≤ nl := by omega
      clear hfo hown fa hms
      go_wp2_with fail
      refine (HLN.out _ FA.out).mono ?_
      rintro o wb ⟨Ab, cb, rfl, hown, fb⟩
      obtain ⟨_, _, he, _, hcap, _⟩ := ownsRow_shape hown
      injection he with he1 _ he2
      subst he1
      subst he2
      have RB := Lib.hid (Reads.of_own hown)
      have RAb := Lib.hid (RA.out.fr fb (Nat.le_refl _) (by simp))
      have FB := Lib.hid (FA.out.trans (fb.mono (B' := wr.heap.size) (L' := []) FA.out.size (by simp)))
      clear hown fb RA FA
      have hdm : decide ((nl : Int) < (ms : Int)) = false := decide_eq_false (by omega)
      have hdm2 : decide (nl < ms) = false := decide_eq_false (by omega)
      have hfi : (nl : Int) - (ms : Int) = (f : Int) := by have := HMS.out; omega
      have hnf : nl - f = ms := HMS.out.symm
      have hfw : wrap64 (f : Int) = (f : Int) := by unfold wrap64; omega
      have hfw2 : IntKind.i64.wrap (f : Int) = (f : Int) := by rw [IntKind.wrap_i64]; omega
      have RC := reads_from (f := f) RB.out HL.out hfn hcap
      rw [hnf] at RC
      have RC := Lib.hid RC
      have HD := Lib.hid (show ms = (l.drop f).length by rw [List.length_drop, ← HL.out, HMS.out])
      have RD := Lib.hid ((⟨RAb.out, RC.out⟩ : Reads wb wa.heap.size 5 Aa ms (cellsLn (l.drop f)) ∧ Reads wb wb.heap.size 5 (if cb = f then Ab else Ab.map (·.add (f * 5))) ms (cellsLn (l.drop f))))
      have HLY := Lib.hid (fun A' c1 c2 (e : A' = if cb = f then Ab else Ab.map (·.add (f * 5))) => (by subst e; exact lines_yes (c1 := c1) (c2 := c2) HD.out RD.out.1 RD.out.2 (by omega) : Calls Try.prog 23 #[.slice Aa ms c1, .slice A' ms c2] wb fun e w' => e = .returned (.bool true) ∧ Fr wb.heap.size [] wb w'))
      clear RC RD RAb
      go_upto_region 15 with fail
      go_cut [72] (fun s72 wx => s72 = .bool false ∧ RowKit.Hid (Fr wr.heap.size [] wr wx))
      case first =>
        by_cases hcf : cb = f
        · have hcf2 : f = cb := hcf.symm
          have hnf2 : nl - cb = ms := by rw [← hcf2]; exact hnf
          clear hcf hnf
          go_wp2_with fail
          refine (HLY.out _ _ _ (by simp [hcf2])).mono ?_
          rintro o wd ⟨rfl, fd⟩
          have FD := Lib.hid (FB.out.trans (fd.mono (B' := wr.heap.size) (L' := []) FB.out.size (by simp)))
          have RBd := Lib.hid (RB.out.fr fd (Nat.le_refl _) (by simp))
          have fd0 := fd.size
          clear fd HLY
          go_wp2_with fail
          refine (HSN.out _ _ FD.out).mono ?_
          rintro o we ⟨f0, Ae, ce, hf0, rfl, hown, fe⟩
          obtain rfl : f0 = 0 := HI.out.zero (by rw [← HL.out]; exact hf0)
          have RE := Lib.hid (Reads.of_own hown)
          have RBe := Lib.hid ((RBd.out.more fd0).fr fe (Nat.le_refl _) (by simp))
          have FE := Lib.hid (FD.out.trans (fe.mono (B' := wr.heap.size) (L' := []) FD.out.size (by simp)))
          clear hf0 hown fe RBd
          have HLZ := Lib.hid (fun c1 c2 => (lines_yes (c1 := c1) (c2 := c2) HL.out RE.out RBe.out (by omega) : Calls Try.prog 23 #[.slice Ae nl c1, .slice Ab nl c2] we fun e w' => e = .returned (.bool true) ∧ Fr we.heap.size [] we w'))
          go_wp2_with fail
          refine (HLZ.out _ _).mono ?_
          rintro o wf ⟨rfl, ff⟩
          have FF := Lib.hid (FE.out.trans (ff.mono (B' := wr.heap.size) (L' := []) FE.out.size (by simp)))
          clear ff HLZ
          go_wp2_with fail
          refine (HEP.out _ FF.out).mono ?_
          rintro o wg ⟨rfl, rfl⟩
          go_wp2_with fail
          refine (HSN.out _ _ FF.out).mono ?_
          rintro o wh ⟨f1, Ah, ch, hf1, rfl, hown, fh⟩
          obtain rfl : f1 = nl := by rw [HL.out]; exact HI.out.last (by rw [← HL.out]; exact hf1)
          have FH := Lib.hid (FF.out.trans (fh.mono (B' := wr.heap.size) (L' := []) FF.out.size (by simp)))
          clear hf1 hown fh
          rw [Nat.sub_self]
          go_wp2_with fail
          go_meet
          exact ⟨rfl, FH⟩
        · go_wp2_with fail
          refine (HLY.out _ _ _ (by rw [if_neg hcf])).mono ?_
          rintro o wd ⟨rfl, fd⟩
          have FD := Lib.hid (FB.out.trans (fd.mono (B' := wr.heap.size) (L' := []) FB.out.size (by simp)))
          have RBd := Lib.hid (RB.out.fr fd (Nat.le_refl _) (by simp))
          have fd0 := fd.size
          clear fd HLY
          go_wp2_with fail
          refine (HSN.out _ _ FD.out).mono ?_
          rintro o we ⟨f0, Ae, ce, hf0, rfl, hown, fe⟩
          obtain rfl : f0 = 0 := HI.out.zero (by rw [← HL.out]; exact hf0)
          have RE := Lib.hid (Reads.of_own hown)
          have RBe := Lib.hid ((RBd.out.more fd0).fr fe (Nat.le_refl _) (by simp))
          have FE := Lib.hid (FD.out.trans (fe.mono (B' := wr.heap.size) (L' := []) FD.out.size (by simp)))
          clear hf0 hown fe RBd
          have HLZ := Lib.hid (fun c1 c2 => (lines_yes (c1 := c1) (c2 := c2) HL.out RE.out RBe.out (by omega) : Calls Try.prog 23 #[.slice Ae nl c1, .slice Ab nl c2] we fun e w' => e = .returned (.bool true) ∧ Fr we.heap.size [] we w'))
          go_wp2_with fail
          refine (HLZ.out _ _).mono ?_
          rintro o wf ⟨rfl, ff⟩
          have FF := Lib.hid (FE.out.trans (ff.mono (B' := wr.heap.size) (L' := []) FE.out.size (by simp)))
          clear ff HLZ
          go_wp2_with fail
          refine (HEP.out _ FF.out).mono ?_
          rintro o wg ⟨rfl, rfl⟩
          go_wp2_with fail
          refine (HSN.out _ _ FF.out).mono ?_
          rintro o wh ⟨f1, Ah, ch, hf1, rfl, hown, fh⟩
          obtain rfl : f1 = nl := by rw [HL.out]; exact HI.out.last (by rw [← HL.out]; exact hf1)
          have FH := Lib.hid (FF.out.trans (fh.mono (B' := wr.heap.size) (L' := []) FF.out.size (by simp)))
          clear hf1 hown fh
          rw [Nat.sub_self]
          go_wp2_with fail
          go_meet
          exact ⟨rfl, FH⟩
      case rest =>
        obtain ⟨rfl, FC⟩ := hcut
        clear HLY RB
        go_wp2_with fail
        refine (HTT.out _ FC.out).mono ?_
        rintro e wt ⟨K, L, At, ct, hK, hp, hso, rfl, hrd, hft⟩
        obtain ⟨nL, hnL⟩ : ∃ nL, nL = L.length := ⟨_, rfl⟩
        have hnLm : nL ≤ 1000000 := by rw [hnL, hp.length_eq, List.length_map]; exact Nat.le_trans (keys_le hK) HLM.out
        have HNL := Lib.hid hnL
        have RL := Lib.hid hrd
        have HTO := Lib.hid (fun (x : Nat → Int) (hx : x ∈ L) => tot_of hK hp hx)
        have H4L := Lib.hid (fun i => many4_le hK hp i)
        have H4A := Lib.hid (show many4 L = (nl : Int) by rw [HL.out]; exact many4_all hK hp)
        have FT := Lib.hid (FC.out.trans (hft.mono (B' := wr.heap.size) (L' := []) FC.out.size (by simp)))
        rw [← hnL]
        clear hK hp hso hrd hft hnL FC HTT
        go_wp2_with fail
        go_loopg [10, 12, 76] nL (fun g s10 s12 s76 wz => ∃ i : Nat, i ≤ nL ∧ g = nL - i ∧ s76 = .int .i64 i ∧ s10 = .int .i64 (many4 (L.take i)) ∧ (s12 = undef ∨ ∃ a, s12 = .pointer a) ∧ RowKit.Hid (Fr wt.heap.size [] wt wz))
        case atStart => exact ⟨0, Nat.zero_le _, rfl, rfl, rfl, .inl rfl, Lib.hid (Fr.refl _ _ _)⟩
        case round =>
          obtain ⟨i, hi, rfl, rfl, rfl, hs12, FZ⟩ := hrel
          by_cases hin : i < nL
          · have hii : (i : Int) < (nL : Int) := by omega
            obtain ⟨x, hx⟩ : ∃ x, L[i]? = some x := ⟨_, List.getElem?_eq_getElem (by rw [← HNL.out]; exact hin)⟩
            have hrl := RL.out.fr FZ.out (Nat.le_refl _) (by simp)
            obtain ⟨b, off, rfl, hb, pc⟩ := reads_tot hrl hx
            have p0 := pc 0 (by omega)
            have p1 := pc 1 (by omega)
            have p2 := pc 2 (by omega)
            have p3 := pc 3 (by omega)
            have p4 := pc 4 (by omega)
            have p5 := pc 5 (by omega)
            simp only [Nat.add_zero] at p0
            obtain ⟨h3, h30⟩ := HTO.out x (List.mem_of_getElem? hx)
            have H4 := many4_take hx
            have h4a := H4L.out i
            have h4b := H4L.out (i + 1)
            have hlen := HLM.out
            obtain ⟨s4, hs4⟩ : ∃ s, s = many4 (L.take i) := ⟨_, rfl⟩
            rw [← hs4] at H4 h4a ⊢
            have hs4w : IntKind.i64.wrap (s4 + x 3) = s4 + x 3 := by rw [IntKind.wrap_i64]; omega
            obtain ⟨k, hk⟩ : ∃ k, k = (onlyV l (x 0, x 1, x 2)).length := ⟨_, rfl⟩
            rw [← hk] at h3
            rw [h3] at p3 H4 hs4w h30
            have hk0 : ((k : Int) == 0) = false := by simpa using h30
            have hdk0 : decide ((k : Int) = 0) = false := decide_eq_false h30
            have hdk1 : decide (k = 0) = false := decide_eq_false (fun e => h30 (by rw [e]; rfl))
            have hkk := neq_self_i (k : Int)
            have H4 := Lib.hid H4
            have HK := Lib.hid hk
            clear pc hx hrl h4a h4b hlen hs4 h3 hk
            go_upto_region 21 with fail
            have BZ := Lib.hid (Blk.new wr 40 #[.int .i64 (x 0), .int .i64 (x 1), .int .i64 (x 2), .int .i64 (k : Nat), .int .i64 (x 4), .int .i64 (x 5)])
            have FZz := Lib.hid (FZ.out.alloc FZ.out.size (.cells #[.int .i64 (x 0), .int .i64 (x 1), .int .i64 (x 2), .int .i64 (k : Nat), .int .i64 (x 4), .int .i64 (x 5)] 40))
            clear p0 p1 p2 p3 p4 p5 FZ hb
            generalize wr.alloc (.cells #[.int .i64 (x 0), .int .i64 (x 1), .int .i64 (x 2), .int .i64 (k : Nat), .int .i64 (x 4), .int .i64 (x 5)] 40) = wy at *
            generalize wr.heap.size = gz at *
            have HO2 := fun wx (h : Fr wy.heap.size [] wy wx) => HOF.out wx (FT.out.trans ((FZz.out.trans (h.mono (B' := wt.heap.size) (L' := []) FZz.out.size (by simp))).mono FT.out.size (by simp))) (x 0) (x 1) (x 2)
            unfold OnlyOut at HO2
            rw [← HK.out] at HO2
            have HO2 := Lib.hid HO2
            have SF := Lib.hid (fun wx (h : Fr wy.heap.size [] wy wx) => (⟨(BZ.out.fr h BZ.out.lt (by simp)).cell 0, (BZ.out.fr h BZ.out.lt (by simp)).cell 1, (BZ.out.fr h BZ.out.lt (by simp)).cell 2, (BZ.out.fr h BZ.out.lt (by simp)).cell 3⟩ : wx.cell? ⟨gz, 0, none⟩ = some (.int .i64 (x 0)) ∧ wx.cell? ⟨gz, 1, none⟩ = some (.int .i64 (x 1)) ∧ wx.cell? ⟨gz, 2, none⟩ = some (.int .i64 (x 2)) ∧ wx.cell? ⟨gz, 3, none⟩ = some (.int .i64 (k : Nat))))
            generalize x 0 = y0 at *
            generalize x 1 = y1 at *
            generalize x 2 = y2 at *
            go_cut [96] (fun s96 wx => s96 = .bool false ∧ RowKit.Hid (Fr wy.heap.size [] wy wx))
            case first =>
              have INV := Lib.hid ((Fr.refl wy.heap.size [] wy).drew)
              go_region_held3 (fun wx => wx.cell? ⟨gz, 0, none⟩ = some (.int .i64 y0) ∧ wx.cell? ⟨gz, 1, none⟩ = some (.int .i64 y1) ∧ wx.cell? ⟨gz, 2, none⟩ = some (.int .i64 y2) ∧ wx.cell? ⟨gz, 3, none⟩ = some (.int .i64 (k : Nat))) (exact SF.out _ INV.out)
                ((go_at_call 25; refine (HO2.out _ INV.out).mono ?_; rintro e w' ⟨A', c', rfl, _, hf⟩; have INV := Lib.hid (INV.out.trans (hf.mono INV.out.size (by simp))); clear hf))
              all_goals
                go_wp2_with fail
                go_meet
                exact ⟨rfl, INV⟩
            case rest =>
              obtain ⟨rfl, FR⟩ := hcut
              have q3 := (SF.out _ FR.out).2.2.2
              have FZr := Lib.hid (FZz.out.trans (FR.out.mono (B' := wt.heap.size) (L' := []) FZz.out.size (by simp)))
              clear SF HO2 BZ FR
              go_wp2_with fail
              go_roundg (nL - (i + 1))
              case measure => omega
              case rel => exact ⟨i + 1, by omega, rfl, by go_num, by rw [H4.out], .inr ⟨_, rfl⟩, FZr⟩
          · obtain rfl : nL = i := by omega
            have htk : L.take nL = L := List.take_of_length_le (by rw [HNL.out]; exact Nat.le_refl _)
            rw [htk, H4A.out]
            have BLz := Lib.hid (BLr.out.trans ((FT.out.trans (FZ.out.mono FT.out.size (by simp))).below.mono BLr.out.size))
            have HLF := Lib.hid (HLE.out _ (FT.out.trans (FZ.out.mono FT.out.size (by simp))))
            clear htk
            go_wp2_with fail
            refine HLF.out.mono ?_
            rintro e wq ⟨rfl, rfl⟩
            go_wp2_with fail
            go_ret
            exact ⟨rfl, BLz.out⟩
end Go.Proofs.Ytdkdhhfejbecdaa
