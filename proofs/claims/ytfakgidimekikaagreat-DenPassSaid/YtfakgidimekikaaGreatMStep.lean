/- Texts merged into one, for the number of files a claim may have: Step. -/
import Derived.Test.YtfakgidimekikaaGreatMWalk
import Derived.Deep.DeepCutAuto
import Derived.Deep.CutBlock
import Derived.BigQuiet
namespace Go.Proofs.YtfakgidimekikaaGreat
open Go.RowKit Go.Fb
theorem nextsF_gt {n k : Nat} {i : Int × Int} (hk : k < n) (hi : rightB i = true) : ∀ t ∈ nextsF n k i, k < t ∧ t ≤ n := by
  intro t ht
  have h := nextsF_le hk i t ht
  obtain ⟨_, _, _, _, r5, _⟩ := right_range hi
  unfold nextsF farF at ht
  split at ht
  · cases ht
  · split at ht
    · rename_i h16
      have := r5 (.inr h16)
      simp at ht
      omega
    · split at ht
      · rename_i h15
        have := r5 (.inl h15)
        simp at ht
        omega
      · simp at ht; omega
theorem nextsF_len (n k : Nat) (i : Int × Int) : (nextsF n k i).length ≤ 2 := by
  unfold nextsF
  split
  · simp
  · split
    · simp
    · split <;> simp
theorem come_D {n t : Nat} {s s' : CS} {d e : Int} (h : comeF n s t d e = some s') (k : Nat) (hk : k ≠ t) : s'.D k = s.D k := by
  unfold comeF at h
  split at h
  · cases h
  · split at h
    · injection h with h; subst h; rfl
    · split at h
      · cases h
      · injection h with h; subst h
        simp only [updC]
        rw [if_neg hk]
theorem comes_drop {n : Nat} {d e : Int} {L : List Nat} {j t : Nat} (s : CS) (h : L[j]? = some t) : comesF n d e (L.drop j) s = match comeF n s t d e with
    | none => none
    | some s' => comesF n d e (L.drop (j + 1)) s' := by
  have hj : j < L.length := by
    rcases Nat.lt_or_ge j L.length with h' | h'
    · exact h'
    · rw [List.getElem?_eq_none h'] at h; cases h
  rw [List.getElem?_eq_getElem hj] at h
  injection h with h
  rw [List.drop_eq_getElem_cons hj, h]
  rfl
theorem WMem.setU0 {gw gd ge gm n : Nat} {A : Option Addr} {c : Nat} {s : CS} {w : World} (h : WMem gw gd ge gm n A c s w) : WMem gw gd ge gm n A c { s with u0 := true } (w.setCell ⟨gw, 3, none⟩ (.bool true)) :=
  ⟨h.blk.set_ 3 _, h.dep.far (p := ⟨gw, 3, none⟩) h.ne1 _, h.ems.far (p := ⟨gw, 3, none⟩) h.ne2 _, h.map.far (p := ⟨gw, 3, none⟩) (h.map.ne h.blk) _, h.ne1, h.ne2, h.ne3⟩
theorem WMem.setU1 {gw gd ge gm n : Nat} {A : Option Addr} {c : Nat} {s : CS} {w : World} (h : WMem gw gd ge gm n A c s w) : WMem gw gd ge gm n A c { s with u1 := true } (w.setCell ⟨gw, 4, none⟩ (.bool true)) :=
  ⟨h.blk.set_ 4 _, h.dep.far (p := ⟨gw, 4, none⟩) h.ne1 _, h.ems.far (p := ⟨gw, 4, none⟩) h.ne2 _, h.map.far (p := ⟨gw, 4, none⟩) (h.map.ne h.blk) _, h.ne1, h.ne2, h.ne3⟩
/-- What step leaves. -/
def StepOut (gw gd ge gm n : Nat) (A : Option Addr) (c : Nat) (r : Option CS) (w : World) (e : Ending) (w' : World) : Prop :=
  e = .returned (.bool r.isSome) ∧ (∀ s', r = some s' → WMem gw gd ge gm n A c s' w') ∧ Fr w.heap.size [gw, gd, ge] w w'
set_option maxRecDepth 100000 in
set_option maxHeartbeats 4000000 in
theorem step_any (gw gd ge gm : Nat) (A : Option Addr) (c B : Nat) (l : List (Int × Int)) (s : CS) (k : Nat) (i : Int × Int) (w : World) (hr : Reads w B 2 A l.length (cellsI l)) (hB : B ≤ gw ∧ B ≤ gd ∧ B ≤ ge) (hn : l.length ≤ 24) (hx : l[k]? = some i) (hi : rightB i = true)
    (hI : CInv l.length s) (p : Nat → Int × Int) (hp : p k = i) (hm : WMem gw gd ge gm l.length A c s w) :
    Calls Tryz.prog 182 #[.pointer (some ⟨gw, 0, none⟩), .int .i64 k] w (StepOut gw gd ge gm l.length A c (stepF l.length p s k) w) := by
  have hkl : k < l.length := by
    rcases Nat.lt_or_ge k l.length with h' | h'
    · exact h'
    · rw [List.getElem?_eq_none h'] at hx; cases hx
  obtain ⟨r, hrr⟩ : ∃ r, r = stepF l.length p s k := ⟨_, rfl⟩
  rw [← hrr]
  unfold stepF at hrr
  rw [hp] at hrr
  have hBw : B ≤ w.heap.size := Nat.le_trans hB.1 (Nat.le_of_lt hm.blk.lt)
  have NX := Lib.hid (fun (w' : World) (hw : Fr w.heap.size [gw, gd, ge] w w') => next_any A c B l k i w' (hr.fr hw hBw (by simp; omega)) (Nat.le_trans hBw hw.size) hn hx hi)
  obtain ⟨b, off, hA, hb, c1, c2⟩ := reads_ins hr hx
  obtain ⟨r1, r2, r3, r4, r5, r6⟩ := right_range hi
  have GT := Lib.hid (nextsF_gt hkl hi)
  obtain ⟨o, a⟩ := i
  obtain ⟨n, hnl⟩ : ∃ n, n = l.length := ⟨_, rfl⟩
  rw [← hnl] at hn hkl hm hrr NX GT hI ⊢
  obtain ⟨t1, t2⟩ := takesF_range o
  obtain ⟨t3, t4⟩ := leavesF_range o
  have HRR := Lib.hid hrr
  simp only at c1 c2 r1 r2 r3 r4 r5 r6 HRR
  obtain ⟨d1, d2⟩ := hI.d k
  obtain ⟨e1, e2⟩ := hI.e k
  have HI := Lib.hid hI
  have HM := Lib.hid hm
  have hbw : b < w.heap.size := by omega
  have hgw := hm.blk.lt
  have hgd := hm.dep.lt
  have hge := hm.ems.lt
  have hgm := hm.map.lt
  have q5 := hm.blk.cell 5
  simp at q5
  have HLK := Lib.hid (fun (w' : World) (h : EffMap w' gm) => eff_look h o ⟨r1, r2⟩)
  have hki : (k : Int) < (n : Int) := by omega
  clear hr hx hi hnl hb hp hrr hm hI
  rw [hA] at q5
  clear hA
  go_enter Tryz.func182, Tryz.ntmps182
  go_wp2_with fail
  have B5 := Blk.new w 166 #[.int .i64 o, .int .i64 a]
  have f1 := (Fr.refl w.heap.size [] w).alloc (Nat.le_refl _) (.cells #[.int .i64 o, .int .i64 a] 166)
  have hs1 : (w.alloc (.cells #[.int .i64 o, .int .i64 a] 166)).heap.size = w.heap.size + 1 := by simp
  have M1 := Lib.hid (HM.out.keep f1)
  obtain ⟨w1, hw1⟩ : ∃ w1, w1 = w.alloc (.cells #[.int .i64 o, .int .i64 a] 166) := ⟨_, rfl⟩
  rw [← hw1] at B5 f1 hs1 M1 ⊢
  have F1 := Lib.hid f1
  have HS1 := Lib.hid hs1
  have B5' := Lib.hid B5
  have q7 := M1.out.blk.cell 7
  have p0 := B5.cell 0
  simp at q7 p0
  have hlk1 := HLK.out w1.drew M1.out.map
  have hlk2 := HLK.out ((w1.alloc (.cells #[.int .i64 0, .int .i64 0] 258)).drew) ((Below.heap_alloc _ _ _ M1.out.map.lt).trans M1.out.map)
  have h5lt : w.heap.size < w1.heap.size := B5.lt
  have hgw1 := M1.out.blk.lt
  clear B5 f1 hs1 hw1 c1 c2 q5 HM HLK
  generalize hg5 : w.heap.size = g5 at *
  have HG5 := Lib.hid hg5
  clear hg5
  go_cut [6] (fun s6 wx => s6 = .pointer (some ⟨w1.heap.size, 0, none⟩) ∧ wx = (w1.alloc (.cells #[.int .i64 (takesF o), .int .i64 (leavesF o)] 258)).drew)
  case first =>
    go_region
    all_goals
      go_wp2_with fail
      go_meet
      exact ⟨rfl, rfl⟩
  case rest =>
    obtain ⟨rfl, rfl⟩ := hcut
    have B6 := (Blk.new w1 258 #[.int .i64 (takesF o), .int .i64 (leavesF o)]).drew
    have f2 := ((Fr.refl w1.heap.size [] w1).alloc (Nat.le_refl _) (.cells #[.int .i64 (takesF o), .int .i64 (leavesF o)] 258)).drew
    have M2 := Lib.hid (M1.out.keep f2)
    have B52 := Lib.hid (B5'.out.fr f2 B5'.out.lt (by simp))
    have F2 := Lib.hid (F1.out.trans (f2.mono (B' := g5) (L' := []) (Nat.le_of_lt h5lt) (by simp)))
    clear hlk1 hlk2 q7 p0 M1 F1 B5' f2
    generalize (w1.alloc (.cells #[.int .i64 (takesF o), .int .i64 (leavesF o)] 258)).drew = w2 at *
    have h65 : g5 < w1.heap.size := h5lt
    generalize w1.heap.size = g6 at *
    have HB6 := Lib.hid B6
    have u0 := B6.cell 0
    have x0 := M2.out.blk.cell 0
    have xd := (M2.out.dep.cell k).trans (intsA_get _ hkl)
    simp at u0 x0
    clear B6
    generalize takesF o = tk at *
    generalize leavesF o = lv at *
    by_cases hlt : s.D k < tk
    · obtain rfl : r = none := by rw [HRR.out, if_pos hlt]
      have hd : decide (s.D k < tk) = true := decide_eq_true hlt
      go_wp2_with fail
      go_quiet (fail)
      go_wp2_with fail
      go_ret
      exact ⟨rfl, (fun _ h => by cases h), by rw [HG5.out]; exact (F2.out.drewN nq).mono (Nat.le_refl _) (by simp)⟩
    have hd : decide (s.D k < tk) = false := decide_eq_false hlt
    have hrr := HRR.out
    rw [if_neg hlt] at hrr
    have HR2 := Lib.hid hrr
    clear hrr HRR
    go_wp2_with fail
    go_quiet (fail)
    have M3 := Lib.hid (M2.out.drewN nq)
    have B53 := Lib.hid (B52.out.drewN nq)
    have B63 := Lib.hid (HB6.out.drewN nq)
    have F3 := Lib.hid ((F2.out.drewN nq).mono (B' := g5) (L' := [gw, gd, ge]) (Nat.le_refl _) (by simp))
    clear M2 B52 HB6 F2 u0 x0 xd hd
    generalize w2.drewN nq = w3 at *
    have y6 := M3.out.blk.cell 6
    have ye := (M3.out.ems.cell k).trans (intsA_get _ hkl)
    have y0 := B53.out.cell 0
    have y1 := B53.out.cell 1
    simp at y6 y0 y1
    go_upto_block 0 with fail
    go_cut [7] (fun s7 wx => s7 = .int .i64 (emF s k (o, a)) ∧ RowKit.Hid (WMem gw gd ge gm n A c (useF s (o, a)) wx) ∧ RowKit.Hid (Blk wx g6 258 #[.int .i64 tk, .int .i64 lv]) ∧ RowKit.Hid (Fr g5 [gw, gd, ge] w wx))
    case first =>
      by_cases h14 : o = 14
      · subst h14
        go_wp2_with fail
        go_meet
        exact ⟨by simp [emF], (by unfold useF; rw [if_neg (by simp)]; exact M3.out), B63.out, F3.out⟩
      by_cases h45 : o = 4 ∨ o = 5
      · have hem : emF s k (o, a) = s.E k := by unfold emF; rw [if_neg (by simpa using h14)]
        obtain ⟨a1, a2⟩ := r6 h45
        have HEM := Lib.hid hem
        clear r5 r6 hem h14
        have z3 := M3.out.blk.frozen 3
        have z4 := M3.out.blk.frozen 4
        have v3 := M3.out.blk.cell 3
        have v4 := M3.out.blk.cell 4
        simp at v3 v4
        have ha : a = 0 ∨ a = 1 := by omega
        rcases ha with rfl | rfl <;> rcases h45 with rfl | rfl
        all_goals
          go_upto_region 11 with fail
          go_region
          all_goals
            go_wp2_with fail
            go_meet
            first
              | exact ⟨by rw [HEM.out], M3.out.setU0.drew, (B63.out.far (p := ⟨gw, 3, none⟩) (by show g6 ≠ gw; omega) _).drew, (F3.out.setCell (p := ⟨gw, 3, none⟩) (.inr (by simp)) _).drew⟩
              | exact ⟨by rw [HEM.out], M3.out.setU1.drew, (B63.out.far (p := ⟨gw, 4, none⟩) (by show g6 ≠ gw; omega) _).drew, (F3.out.setCell (p := ⟨gw, 4, none⟩) (.inr (by simp)) _).drew⟩
      · have e14 : (o == 14) = false := by simpa using h14
        have e4 : (o == 4) = false := by simp; omega
        have e5 : (o == 5) = false := by simp; omega
        have HEM := Lib.hid (show emF s k (o, a) = s.E k by unfold emF; rw [if_neg (by simpa using h14)])
        have HUS := Lib.hid (show useF s (o, a) = s by unfold useF; rw [if_neg (by simpa using h45)])
        clear r5 r6 h14 h45
        go_wp2_with fail
        go_meet
        exact ⟨by rw [HEM.out], (by rw [HUS.out]; exact M3.out), B63.out, F3.out⟩
    case rest =>
      obtain ⟨rfl, M4, B64, F4⟩ := hcut
      have y5 := M4.out.blk.cell 5
      simp at y5
      have HI4 := Lib.hid (HI.out.use (o, a))
      have HD4 : RowKit.Hid ((useF s (o, a)).D k = s.D k) := by rw [use_D]; exact (rfl : s.D k = s.D k)
      have hem := emF_range HI.out k (o, a)
      generalize emF s k (o, a) = em at *
      generalize useF s (o, a) = s4 at *
      clear M3 B53 B63 F3 HI y0 y1 y6 ye
      go_wp2_with fail
      refine (NX.out wc F4.out).mono ?_
      rintro e w5 ⟨AL, cL, rfl, RL, apL, fL⟩
      have hL2 := nextsF_len n k (o, a)
      generalize nextsF n k (o, a) = L at *
      obtain ⟨N, hN⟩ : ∃ N, N = L.length := ⟨_, rfl⟩
      rw [← hN] at RL hL2 ⊢
      have HN := Lib.hid hN
      have hgc : g6 < wc.heap.size := B64.out.lt
      have M5 := Lib.hid (M4.out.keep fL)
      have B65 := Lib.hid (B64.out.fr fL B64.out.lt (by simp))
      have F5 := Lib.hid (F4.out.trans (fL.mono (B' := g5) (L' := [gw, gd, ge]) (by omega) (by simp)))
      have HRL := Lib.hid RL
      have HAP := Lib.hid apL
      have hs5 : wc.heap.size ≤ w5.heap.size := fL.size
      clear hN RL apL fL M4 B64 F4 y5 NX
      go_wp2_with fail
      go_loopw [65] (fun i wr => ∃ (j : Nat) (sj : CS), j ≤ N ∧ i = .int .i64 j ∧ RowKit.Hid (comesF n (s.D k - tk + lv) em L s4 = comesF n (s.D k - tk + lv) em (L.drop j) sj) ∧ RowKit.Hid (WMem gw gd ge gm n A c sj wr) ∧ RowKit.Hid (sj.D k = s.D k) ∧ RowKit.Hid (Blk wr g6 258 #[.int .i64 tk, .int .i64 lv]) ∧ RowKit.Hid (Fr g5 [gw, gd, ge] w wr) ∧ RowKit.Hid (Fr w5.heap.size [gw, gd, ge] w5 wr)) (fun i _ => N - (intOf i).toNat)
      case atStart => exact ⟨0, s4, by omega, rfl, rfl, M5, HD4, B65, F5, Fr.refl _ _ _⟩
      case round =>
        clear M5 B65 F5
        obtain ⟨j, sj, hj, rfl, HQ, MR, DR, BR, FR, FW⟩ := hrel
        by_cases hjN : j < N
        · obtain ⟨bl, ol, u, hAL, hbl, hu, hcu⟩ := HRL.out.one hjN
          obtain ⟨t, ht, rfl⟩ : ∃ t : Nat, L[j]? = some t ∧ Value.int .i64 t = u := by simpa using hu
          have hap := HAP.out ⟨bl, ol, none⟩ hAL
          simp only at hap
          have hcr := (FW.out.cell (p := ⟨bl, ol + j, none⟩) hbl (by simp; omega)).trans hcu
          obtain ⟨g1, g2⟩ := GT.out t (List.mem_of_getElem? ht)
          have HST := Lib.hid (comes_drop (d := s.D k - tk + lv) (e := em) (n := n) sj ht)
          have x0 := MR.out.blk.cell 0
          have xd := (MR.out.dep.cell k).trans (intsA_get _ hkl)
          rw [DR.out] at xd
          have u0 := BR.out.cell 0
          have u1 := BR.out.cell 1
          simp at x0 u0 u1
          have hw1 : IntKind.i64.wrap (s.D k - tk) = s.D k - tk := by rw [IntKind.wrap_i64]; omega
          have hw2 : IntKind.i64.wrap (s.D k - tk + lv) = s.D k - tk + lv := by rw [IntKind.wrap_i64]; omega
          rw [hAL]
          clear ht hu hcu hap
          go_upto_region 15 with fail
          refine wp_region_still_tail 17 (by kernel_rfl) (by kernel_rfl) ?_
          simp only [List.take_succ_cons, List.take_zero, List.drop_succ_cons, List.drop_zero]
          repeat still_step
          refine wpStill_nil ?_
          change wpList _ _ _ _ _ wr.drew
          go_wp2_with fail
          have hce := come_any gw gd ge gm n A c sj t (s.D k - tk + lv) em wr.drew hn g2 MR.out.drew
          have FW' := Lib.hid (FW.out.drew)
          have FR' := Lib.hid (FR.out.drew)
          have hsz := FR.out.size
          have BR' := Lib.hid (BR.out.drew)
          have hgr : g6 < wr.heap.size := BR.out.lt
          clear x0 xd u0 u1 hcr FW FR BR MR hw1 hw2
          rcases (show comeF n sj t (s.D k - tk + lv) em = none ∨ ∃ s', comeF n sj t (s.D k - tk + lv) em = some s' by cases comeF n sj t (s.D k - tk + lv) em; exact .inl rfl; exact .inr ⟨_, rfl⟩) with hq | ⟨s', hq⟩
          · rw [hq] at hce
            have HQQ := Lib.hid hq
            clear hq
            refine hce.mono ?_
            rintro e w6 ⟨rfl, hms, f6⟩
            have F6 := Lib.hid (FR'.out.trans (f6.mono (B' := g5) (L' := [gw, gd, ge]) (by show g5 ≤ wr.heap.size; omega) (fun q hq _ => hq)))
            clear f6 hms hce
            go_wp2_with fail
            go_ret
            have hrn : r = none := by rw [HR2.out, HQ.out, HST.out, HQQ.out]
            exact ⟨by rw [hrn]; rfl, (fun _ h => by rw [hrn] at h; cases h), by rw [HG5.out]; exact F6.out⟩
          · rw [hq] at hce
            have HQQ := Lib.hid hq
            clear hq
            refine hce.mono ?_
            rintro e w6 ⟨rfl, hms, f6⟩
            have F6 := Lib.hid (FR'.out.trans (f6.mono (B' := g5) (L' := [gw, gd, ge]) (by show g5 ≤ wr.heap.size; omega) (fun q hq _ => hq)))
            have W6 := Lib.hid (FW'.out.trans (f6.mono (B' := w5.heap.size) (L' := [gw, gd, ge]) FW'.out.size (fun q hq _ => hq)))
            have B6 := Lib.hid (BR'.out.fr f6 BR'.out.lt (by simp; omega))
            have MS := Lib.hid (hms s' rfl)
            clear f6 hms hce
            go_wp2_with fail
            go_roundw
            case rel =>
              refine ⟨j + 1, s', by omega, by go_num, ?_, MS, ?_, B6, F6, W6⟩
              · show _ = _
                rw [HQ.out, HST.out, HQQ.out]
              · show _ = _
                rw [come_D HQQ.out k (by omega)]
                exact DR.out
            case measure => simp [intOf]; omega
        · obtain rfl : N = j := by omega
          have hrn : r = some sj := by
            rw [HR2.out, HQ.out, List.drop_of_length_le (by rw [HN.out]; exact Nat.le_refl _)]
            rfl
          have HRN := Lib.hid hrn
          clear hrn
          go_wp2_with fail
          go_ret
          exact ⟨by rw [HRN.out]; rfl, (fun s'' h => by rw [HRN.out] at h; injection h with h; subst h; exact MR.out), by rw [HG5.out]; exact FR.out⟩
end Go.Proofs.YtfakgidimekikaaGreat
