/- Texts merged into one, for the number of files a claim may have: PfC, PfP. -/
import Derived.Test.YtfakgidimekikaaGreatMPfA
import Derived.Test.YtfakgidimekikaaGreatMCtP
import Derived.Maps.RangeRun
namespace Go.Proofs.YtfakgidimekikaaGreat
open Go.RowKit Go.Fb
set_option linter.unusedVariables false
theorem pref_no {a b : List (Nat → Int)} {p : Pl} (h : preB (onlyV a p) (onlyV b p) = false) : prefB a b = false := by
  rw [Bool.eq_false_iff]
  intro hp
  unfold prefB at hp
  rw [List.all_eq_true] at hp
  cases hl : (a.filter fun x => decide (keyL x = p)) with
  | nil =>
    have : onlyV a p = [] := by unfold onlyV; rw [hl]; rfl
    rw [this] at h
    simp [preB] at h
  | cons x t =>
    have hx : x ∈ a.filter fun x => decide (keyL x = p) := by rw [hl]; simp
    obtain ⟨h1, h2⟩ := List.mem_filter.1 hx
    have h3 := hp x h1
    rw [of_decide_eq_true h2, h] at h3
    cases h3
set_option maxRecDepth 100000 in
set_option maxHeartbeats 8000000 in
theorem dprefix_any (A1 A2 : Option Addr) (n1 n2 c1 c2 B : Nat) (a b : List (Nat → Int)) (w : World) (h1 : n1 = a.length) (h2 : n2 = b.length) (hm1 : n1 ≤ 1000) (hm2 : n2 ≤ 1000) (r1 : Reads w B 5 A1 n1 (cellsLn a)) (r2 : Reads w B 5 A2 n2 (cellsLn b)) (hB : B ≤ w.heap.size) :
    Calls Tryz.prog 18 #[.slice A1 n1 c1, .slice A2 n2 c2] w fun e w' => e = .returned (.bool (prefB a b)) ∧ Fr w.heap.size [] w w' := by
  have HBB := Lib.hid (by rw [h2]; exact by_any A2 c2 B b w (by rw [← h2]; exact r2) hB (by omega) : Calls Tryz.prog 49 #[.slice A2 n2 c2] w (ByOut b w))
  have HBA := Lib.hid (fun (wx : World) (hx : Fr w.heap.size [] w wx) => (by rw [h1]; exact by_any A1 c1 B a wx (by rw [← h1]; exact r1.fr hx hB (by simp)) (Nat.le_trans hB hx.size) (by omega) : Calls Tryz.prog 49 #[.slice A1 n1 c1] wx (ByOut a wx)))
  have H1 := Lib.hid h1
  have H2 := Lib.hid h2
  obtain ⟨v, hv⟩ : ∃ v, v = prefB a b := ⟨_, rfl⟩
  have HV := Lib.hid hv
  rw [← hv]
  clear r1 r2 h1 h2 hv
  go_enter Tryz.func18, Tryz.ntmps18
  go_wp2_with fail
  refine HBB.out.mono ?_
  rintro e w1 ⟨psb, rfl, hmb, f1⟩
  obtain ⟨gb, hgb⟩ : ∃ g, g = w.heap.size := ⟨_, rfl⟩
  rw [← hgb] at hmb ⊢
  have HMB := Lib.hid hmb
  have F1 := Lib.hid f1
  have HA1 := Lib.hid (HBA.out w1 f1)
  have HGB := Lib.hid hgb
  clear f1 hmb HBB HBA hgb
  go_wp2_with fail
  refine HA1.out.mono ?_
  rintro e w2 ⟨psa, rfl, hma, f2⟩
  obtain ⟨ga, hga⟩ : ∃ g, g = w1.heap.size := ⟨_, rfl⟩
  rw [← hga] at hma ⊢
  have HMA := Lib.hid hma
  have HMB2 := Lib.hid (HMB.out.keep f2)
  have F2 := Lib.hid (F1.out.trans (f2.mono (B' := w.heap.size) (L' := []) F1.out.size (by simp)))
  have hltm := hma.mp.lt
  obtain ⟨es, clock, hb, ho, hbn, hkv⟩ := hma.mp
  have hrg := run_range_map (P := Tryz.prog) w2 90 93 30 ga es clock Tryz.underlying90 hb
  have HBO := Lib.hid hb
  have HOL := Lib.hid ho
  have HBN := Lib.hid hbn
  have HKV := Lib.hid hkv
  obtain ⟨gi, hgi⟩ : ∃ gi, gi = w2.heap.size := ⟨_, rfl⟩
  have HGI := Lib.hid hgi
  clear hb ho hbn hkv f2 hma HMB HA1 hga
  go_upto_region 3 with fail
  rw [← hgi] at hltm
  simp only [← hgi]
  clear hgi
  go_loopw [6, 7, 8] (fun s6 s7 s8 wr => ∃ seen : Array Nat, (s6 = undef ∨ ∃ a, s6 = .pointer a) ∧ (s7 = undef ∨ ∃ A n c, s7 = .slice A n c) ∧ (s8 = undef ∨ ∃ A n c, s8 = .slice A n c) ∧ RowKit.Hid (wr.heap[gi]? = some (.mapIter (some ga) clock seen clock)) ∧ RowKit.Hid (∀ e ∈ es.toList, seen.contains e.born = true → ∀ p, e.key = plV p → preB (onlyV a p) (onlyV b p) = true) ∧ RowKit.Hid (Fr gi [] w2 wr)) (fun _ _ _ wr => (leftOf es (wr.iterSeen gi)).size)
  case atStart => exact ⟨#[], .inl rfl, .inl rfl, .inl rfl, Lib.hid (by rw [HGI.out]; exact heap_alloc_new w2 _), Lib.hid (fun e _ h => by simp at h), Lib.hid (by rw [HGI.out]; exact (Fr.refl _ _ _).alloc (Nat.le_refl _) _)⟩
  case round =>
    clear hrg
    obtain ⟨seen, h6, h7, h8, HI, HS, FF⟩ := hrel
    have hbm := (FF.out.block ga hltm (by simp)).trans HBO.out
    have FW := Lib.hid (F2.out.trans (FF.out.mono (B' := w.heap.size) (L' := []) (by have := F2.out.size; have := HGI.out; omega) (by simp)))
    rcases run_next_at (P := Tryz.prog) wr 0 gi ga clock clock seen es clock HI.out hbm HOL.out (Nat.le_refl _) with ⟨h0, hrun⟩ | ⟨e, hel, w3, hw3, hrun⟩
    · have hnx : ∀ ty, (Instr.next (.pointer (some ⟨gi, 0, none⟩)) false ty).run Tryz.prog wr = _ := fun _ => hrun
      have HT := Lib.hid (show prefB a b = true by
        unfold prefB
        rw [List.all_eq_true]
        intro x hx
        have hsz := HMA.out.own (keyL x)
        have hne : getP psa (keyL x) ≠ .slice none 0 0 := fun e => by
          rw [e] at hsz
          have h1 : (x 3, x 4) ∈ onlyV a (keyL x) := by
            unfold onlyV
            exact List.mem_map.2 ⟨x, List.mem_filter.2 ⟨hx, by simp⟩, rfl⟩
          have h2 := List.length_pos_of_mem h1
          obtain ⟨_, _, h3, _⟩ := ownsRow_shape hsz
          injection h3 with _ h3 _
          omega
        have hk : ∃ u, (keyL x, u) ∈ psa := by
          unfold getP at hne
          cases hf : findP (keyL x) psa 0 with
          | none => rw [hf] at hne; exact absurd rfl hne
          | some y =>
            obtain ⟨_, g2⟩ := findP_some (p := keyL x) (v := y.2) (j := y.1) hf
            exact ⟨y.2, List.mem_of_getElem? g2⟩
        obtain ⟨u, hu⟩ := hk
        have hm : (plV (keyL x), u) ∈ es.toList.map (fun e => (e.key, e.val)) := by
          rw [HKV.out]
          exact List.mem_map.2 ⟨(keyL x, u), hu, rfl⟩
        obtain ⟨e, he, h5⟩ := List.mem_map.1 hm
        simp only [Prod.mk.injEq] at h5
        have hs : seen.contains e.born = true := by
          cases hc : seen.contains e.born with
          | true => rfl
          | false =>
            exfalso
            have hm : e ∈ leftOf es seen := by unfold leftOf; rw [Array.mem_filter]; exact ⟨by simpa using he, by rw [hc]; rfl⟩
            have : leftOf es seen = #[] := Array.eq_empty_of_size_eq_zero h0
            rw [this] at hm
            simp at hm
        exact HS.out e he hs (keyL x) h5.1)
      clear hrun h0 hbm
      go_wp2_with fail
      go_ret
      exact ⟨by rw [HV.out, HT.out]; rfl, FW.out⟩
    · obtain ⟨hee, _⟩ := mem_left hel
      obtain ⟨p, y, hpm, hk2, hxv⟩ : ∃ p y, (p, y) ∈ psa ∧ e.key = plV p ∧ e.val = y := by
        have h5 : (e.key, e.val) ∈ psa.map (fun x => (plV x.1, x.2)) := by rw [← HKV.out]; exact List.mem_map.2 ⟨e, hee, rfl⟩
        obtain ⟨q, hq, h6⟩ := List.mem_map.1 h5
        simp only [Prod.mk.injEq] at h6
        exact ⟨q.1, q.2, hq, h6.1.symm, h6.2.symm⟩
      have hgy := getP_mem HMA.out.nd hpm
      obtain ⟨xa, hxa⟩ : ∃ z, z = onlyV a p := ⟨_, rfl⟩
      obtain ⟨xb, hxb⟩ : ∃ z, z = onlyV b p := ⟨_, rfl⟩
      have owa := HMA.out.own p
      have owb := HMB2.out.own p
      rw [hgy, ← hxa] at owa
      rw [← hxb] at owb
      have HXA := Lib.hid hxa
      have HXB := Lib.hid hxb
      have hla : xa.length ≤ 1000 := by rw [hxa]; exact Nat.le_trans (onlyV_le _ _) (by rw [← H1.out]; exact hm1)
      have hlb : xb.length ≤ 1000 := by rw [hxb]; exact Nat.le_trans (onlyV_le _ _) (by rw [← H2.out]; exact hm2)
      obtain ⟨na, hna⟩ : ∃ z, z = xa.length := ⟨_, rfl⟩
      obtain ⟨nb, hnb⟩ : ∃ z, z = xb.length := ⟨_, rfl⟩
      rw [← hna] at owa hla
      rw [← hnb] at owb hlb
      have HNA := Lib.hid hna
      have HNB := Lib.hid hnb
      obtain ⟨Aa, ca, hya, _, _, _⟩ := ownsRow_shape owa
      obtain ⟨Ab, cb, hyb, _, hcb, _⟩ := ownsRow_shape owb
      subst hya
      rw [hyb] at owb
      have HYB := Lib.hid hyb
      have RA0 := Lib.hid (Reads.of_own owa)
      have RB0 := Lib.hid (Reads.of_own owb)
      have hsz3 : w3.heap.size = wr.heap.size := by rcases hw3 with rfl | rfl <;> rfl
      have hlt : gi < w3.heap.size := by
        rw [hsz3]
        rcases Nat.lt_or_ge gi wr.heap.size with h | h
        · exact h
        · have := HI.out; rw [Array.getElem?_eq_none h] at this; cases this
      have f13 : Fr wr.heap.size [] wr w3 := by
        rcases hw3 with rfl | rfl
        · exact Fr.refl _ _ _
        · exact (Fr.refl _ _ _).drew
      have hen := run_entry_at (P := Tryz.prog) (Go.ChangeMaps.setBlock w3 gi (.mapIter (some ga) clock (seen.push e.born) clock)) gi ga clock seen es clock e (stB_new hlt _) (((stB_fr w3 gi _).block ga (by omega) (by simp; omega)).trans ((f13.block ga (by omega) (by simp)).trans hbm)) hee HBN.out
      rw [hxv, hk2] at hrun hen
      have hnx : ∀ ty, (Instr.next (.pointer (some ⟨gi, 0, none⟩)) false ty).run Tryz.prog wr = _ := fun _ => hrun
      have HI2 := Lib.hid (stB_new (w := w3) hlt (.mapIter (some ga) clock (seen.push e.born) clock))
      have F23 := Lib.hid ((f13.mono (B' := wr.heap.size) (L' := [gi]) (Nat.le_refl _) (by simp)).trans ((stB_fr w3 gi (.mapIter (some ga) clock (seen.push e.born) clock)).mono (B' := wr.heap.size) (L' := [gi]) (by omega) (by simp)))
      have HSH := Lib.hid (show (leftOf es ((Go.ChangeMaps.setBlock w3 gi (.mapIter (some ga) clock (seen.push e.born) clock)).iterSeen gi)).size < (leftOf es (wr.iterSeen gi)).size by rw [seen_of HI.out, seen_of HI2.out]; exact left_shrinks es seen e (by simpa using hel))
      have hltr : gi < wr.heap.size := by omega
      have HEE := Lib.hid hee
      have HK2 := Lib.hid hk2
      generalize Go.ChangeMaps.setBlock w3 gi (.mapIter (some ga) clock (seen.push e.born) clock) = w4 at *
      have F4 := Lib.hid (FF.out.trans (F23.out.mono (B' := gi) (L' := []) (by omega) (by intro q hq hlt; simp at hq; omega)))
      have hs4 : wr.heap.size ≤ w4.heap.size := F23.out.size
      clear hrun hee hk2 hxv hel hlt f13 hw3 hsz3 hbm owa owb hgy hpm hyb hxa hxb hna hnb
      have BP := Lib.hid (Blk.new w4 93 #[.int .i64 p.1, .int .i64 p.2.1, .int .i64 p.2.2])
      have f5 := (Fr.refl w4.heap.size [] w4).alloc (Nat.le_refl _) (.cells #[.int .i64 p.1, .int .i64 p.2.1, .int .i64 p.2.2] 93)
      have F5 := Lib.hid (F4.out.trans (f5.mono (B' := gi) (L' := []) (by omega) (by simp)))
      have HI5 := Lib.hid ((f5.block gi (by omega) (by simp)).trans HI2.out)
      have hsz5 := f5.size
      clear f5
      go_upto_region 5 with fail
      clear hen hnx
      generalize w4.alloc (.cells #[.int .i64 p.1, .int .i64 p.2.1, .int .i64 p.2.2] 93) = w5 at *
      obtain ⟨g4, hg4⟩ : ∃ g, g = w4.heap.size := ⟨_, rfl⟩
      rw [← hg4] at BP hsz5 ⊢
      have hg4b : gi ≤ g4 := by omega
      have hg5 : g4 < w5.heap.size := BP.out.lt
      clear hg4 hs4
      have q0 := BP.out.cell 0
      have q1 := BP.out.cell 1
      have q2 := BP.out.cell 2
      simp at q0 q1 q2
      have hlk := (HMB2.out.mp.fr F5.out (by have := HMB2.out.mp.lt; rw [HGI.out]; exact this) (by simp)).look p
      rw [HYB.out] at hlk
      simp only [plV] at hlk
      have RA := Lib.hid (RA0.out.fr F5.out (by rw [HGI.out]; exact Nat.le_refl _) (by simp))
      have RB := Lib.hid (RB0.out.fr F5.out (by rw [HGI.out]; exact Nat.le_refl _) (by simp))
      have hsw : w2.heap.size ≤ w5.heap.size := by rw [← HGI.out]; omega
      have FX := Lib.hid (F2.out.trans (F5.out.mono (B' := w.heap.size) (L' := []) (by have := F2.out.size; have := HGI.out; omega) (by simp)))
      go_upto_region 6 with fail
      by_cases hab : na ≤ nb
      · have hgt : ¬ (nb : Int) < (na : Int) := by omega
        have hca : (na : Int) ≤ (cb : Int) := by omega
        have hn0 : (0 : Int) ≤ (na : Int) := by omega
        have HSM := Lib.hid (veq_any Aa Ab na na ca cb w2.heap.size xa (xb.take na) w5 HNA.out (by rw [List.length_take, ← HNB.out, Nat.min_eq_left hab]) ⟨by omega, by omega⟩ RA.out (vreads_pre (by rw [← HNB.out]; exact RB.out) (by rw [← HNB.out]; exact hab)) hsw)
        obtain ⟨q, hq⟩ : ∃ q, q = decide (xa = xb.take na) := ⟨_, rfl⟩
        rw [← hq] at HSM
        have HQ := Lib.hid (show preB xa xb = q by
          unfold preB
          rw [← HNA.out, ← HNB.out, decide_eq_true hab, Bool.true_and, hq])
        clear hq q0 q1 q2 hlk
        go_wp2_with fail
        refine HSM.out.mono ?_
        rintro e9 w9 ⟨rfl, f9⟩
        have F9 := Lib.hid (FX.out.trans (f9.mono (B' := w.heap.size) (L' := []) FX.out.size (by simp)))
        have F29 := Lib.hid (F5.out.trans (f9.mono (B' := gi) (L' := []) (by omega) (by simp)))
        have HI9 := Lib.hid ((f9.block gi (by omega) (by simp)).trans HI5.out)
        clear f9 HSM
        cases q with
        | true =>
          have HS2 := Lib.hid (show ∀ y ∈ es.toList, (seen.push e.born).contains y.born = true → ∀ p', y.key = plV p' → preB (onlyV a p') (onlyV b p') = true from fun y hy hs p' hk => by
            rw [contains_push] at hs
            cases hc : seen.contains y.born with
            | true => exact HS.out y hy hc p' hk
            | false =>
              rw [hc, Bool.false_or, beq_iff_eq] at hs
              have hye : y = e := by
                have a1 := find_born y es.toList HBN.out hy
                have a2 := find_born e es.toList HBN.out HEE.out
                rw [hs, a2] at a1
                injection a1 with a1
                exact a1.symm
              subst hye
              rw [HK2.out] at hk
              have hpp : p = p' := by
                obtain ⟨a1, a2, a3⟩ := p
                obtain ⟨d1, d2, d3⟩ := p'
                simp [plV] at hk
                obtain ⟨rfl, rfl, rfl⟩ := hk
                rfl
              subst hpp
              rw [← HXA.out, ← HXB.out]
              exact HQ.out)
          have HSH9 := Lib.hid (show (leftOf es (w9.iterSeen gi)).size < (leftOf es (wr.iterSeen gi)).size by rw [seen_of HI9.out, ← seen_of HI2.out]; exact HSH.out)
          go_wp2_with fail
          go_roundw
          case rel => exact ⟨seen.push e.born, .inr ⟨_, rfl⟩, .inr ⟨_, _, _, rfl⟩, .inr ⟨_, _, _, rfl⟩, HI9, HS2, F29⟩
          case measure => exact HSH9.out
        | false =>
          have HF := Lib.hid (show prefB a b = false from pref_no (by rw [← HXA.out, ← HXB.out]; exact HQ.out))
          go_wp2_with fail
          go_ret
          exact ⟨by rw [HV.out, HF.out]; rfl, F9.out⟩
      · have hgt : (nb : Int) < (na : Int) := by omega
        have HF := Lib.hid (show prefB a b = false from pref_no (p := p) (by
          rw [← HXA.out, ← HXB.out]
          unfold preB
          rw [← HNA.out, ← HNB.out, decide_eq_false hab, Bool.false_and]))
        go_wp2_with fail
        go_ret
        exact ⟨by rw [HV.out, HF.out]; rfl, FX.out⟩
set_option maxRecDepth 100000 in
theorem dalike_any (A1 A2 : Option Addr) (n1 n2 c1 c2 B : Nat) (a b : List (Nat → Int)) (w : World) (h1 : n1 = a.length) (h2 : n2 = b.length) (hm1 : n1 ≤ 1000) (hm2 : n2 ≤ 1000) (r1 : Reads w B 5 A1 n1 (cellsLn a)) (r2 : Reads w B 5 A2 n2 (cellsLn b)) (hB : B ≤ w.heap.size) :
    Calls Tryz.prog 16 #[.slice A1 n1 c1, .slice A2 n2 c2] w fun e w' => e = .returned (.bool (decide (a.length = b.length) && prefB a b)) ∧ Fr w.heap.size [] w w' := by
  have HP := Lib.hid (dprefix_any A1 A2 n1 n2 c1 c2 B a b w h1 h2 hm1 hm2 r1 r2 hB)
  by_cases hn : n1 = n2
  · have HD := Lib.hid (show decide (a.length = b.length) = true from decide_eq_true (by rw [← h1, ← h2, hn]))
    subst hn
    clear h1 h2 r1 r2
    go_enter Tryz.func16, Tryz.ntmps16
    go_wp2_with fail
    refine HP.out.mono ?_
    rintro e w1 ⟨rfl, f1⟩
    have F1 := Lib.hid f1
    clear f1 HP
    go_wp2_with fail
    go_ret
    exact ⟨by rw [HD.out, Bool.true_and]; rfl, F1.out⟩
  · have HD := Lib.hid (show decide (a.length = b.length) = false from decide_eq_false (by rw [← h1, ← h2]; exact hn))
    have hne : ((n1 : Int) == (n2 : Int)) = false := by simpa using fun e : (n1 : Int) = n2 => hn (by omega)
    have hni : ¬ (n1 : Int) = (n2 : Int) := by omega
    clear h1 h2 r1 r2 HP
    go_enter Tryz.func16, Tryz.ntmps16
    go_wp2_with fail
    go_ret
    exact ⟨by rw [HD.out, Bool.false_and]; rfl, Fr.refl _ _ _⟩
set_option maxRecDepth 100000 in
theorem ralike_any (A1 A2 : Option Addr) (n1 n2 c1 c2 B : Nat) (a b : List (Nat → Int)) (w : World) (h1 : n1 = a.length) (h2 : n2 = b.length) (hm1 : n1 ≤ 1000) (hm2 : n2 ≤ 1000) (r1 : Reads w B 5 A1 n1 (cellsLn a)) (r2 : Reads w B 5 A2 n2 (cellsLn b)) (hB : B ≤ w.heap.size) :
    Calls Tryz.prog 17 #[.slice A1 n1 c1, .slice A2 n2 c2] w fun e w' => e = .returned (.bool (prefB a b && prefB b a)) ∧ Fr w.heap.size [] w w' := by
  have HP := Lib.hid (rprefix_any A1 A2 n1 n2 c1 c2 B a b w h1 h2 hm1 hm2 r1 r2 hB)
  have HQ := Lib.hid (fun (wx : World) (hx : Fr w.heap.size [] w wx) => rprefix_any A2 A1 n2 n1 c2 c1 B b a wx h2 h1 hm2 hm1 (r2.fr hx hB (by simp)) (r1.fr hx hB (by simp)) (Nat.le_trans hB hx.size))
  obtain ⟨u, hu⟩ : ∃ u, u = prefB a b := ⟨_, rfl⟩
  obtain ⟨v, hv⟩ : ∃ v, v = prefB b a := ⟨_, rfl⟩
  rw [← hu] at HP
  rw [← hv] at HQ
  rw [← hu, ← hv]
  clear h1 h2 r1 r2 hu hv
  go_enter Tryz.func17, Tryz.ntmps17
  go_wp2_with fail
  refine HP.out.mono ?_
  rintro e w1 ⟨rfl, f1⟩
  have F1 := Lib.hid f1
  have HQ1 := Lib.hid (HQ.out w1 f1)
  clear f1 HP HQ
  cases u with
  | false =>
    go_wp2_with fail
    go_ret
    exact ⟨rfl, F1.out⟩
  | true => ?_
  go_wp2_with fail
  refine HQ1.out.mono ?_
  rintro e w2 ⟨rfl, f2⟩
  have F2 := Lib.hid (F1.out.trans (f2.mono (B' := w.heap.size) (L' := []) F1.out.size (by simp)))
  clear f2 HQ1
  go_wp2_with fail
  go_ret
  exact ⟨rfl, F2.out⟩
end Go.Proofs.YtfakgidimekikaaGreat
namespace Go.Proofs.YtfakgidimekikaaGreat
open Go.RowKit Go.Fb
set_option linter.unusedVariables false
theorem count_le : ∀ (u v : List Pl), (∀ p, u.count p ≤ v.count p) → u.length ≤ v.length ∧ (u.length = v.length → ∀ p, u.count p = v.count p)
  | [], v, _ => ⟨Nat.zero_le _, fun h p => by
    have : v = [] := List.eq_nil_of_length_eq_zero h.symm
    rw [this]⟩
  | x :: u, v, h => by
    have hx : x ∈ v := by
      have := h x
      rw [List.count_cons_self] at this
      exact List.count_pos_iff.1 (by omega)
    have h2 : ∀ p, u.count p ≤ (v.erase x).count p := fun p => by
      have := h p
      rw [List.count_erase]
      rw [List.count_cons] at this
      by_cases e : x = p
      · subst e
        simp at this ⊢
        omega
      · have e1 : (x == p) = false := by rw [beq_eq_false_iff_ne]; exact e
        simp [e1] at this ⊢
        have e2 : (p == x) = false := by rw [beq_eq_false_iff_ne]; exact fun h => e h.symm
        first | omega | (simp [e2]; omega)
    obtain ⟨h3, h4⟩ := count_le u (v.erase x) h2
    have hl := List.length_erase_of_mem hx
    have hpos := List.length_pos_of_mem hx
    refine ⟨by rw [List.length_cons]; omega, fun he p => ?_⟩
    have h5 := h4 (by rw [List.length_cons] at he; omega) p
    rw [List.count_erase] at h5
    rw [List.count_cons]
    have h6 := h p
    rw [List.count_cons] at h6
    by_cases e : x = p
    · subst e
      have hc : 0 < v.count x := List.count_pos_iff.2 hx
      simp at h5 h6 ⊢
      omega
    · have e1 : (x == p) = false := by rw [beq_eq_false_iff_ne]; exact e
      simp [e1] at h5 h6 ⊢
      omega
theorem onlyV_count (l : List (Nat → Int)) (p : Pl) : (onlyV l p).length = (l.map keyL).count p := by
  unfold onlyV
  rw [List.length_map]
  induction l with
  | nil => rfl
  | cons x l ih =>
    rw [List.filter_cons, List.map_cons, List.count_cons]
    by_cases e : keyL x = p
    · simp [e, ih]
    · have : (keyL x == p) = false := by rw [beq_eq_false_iff_ne]; exact e
      simp [e, this, ih]
theorem preB_iff {v u : List (Int × Int)} : preB v u = true ↔ v.length ≤ u.length ∧ v = u.take v.length := by
  unfold preB
  rw [Bool.and_eq_true, decide_eq_true_eq, decide_eq_true_eq]
theorem prefB_at {a b : List (Nat → Int)} (h : prefB a b = true) (p : Pl) : preB (onlyV a p) (onlyV b p) = true := by
  cases hc : preB (onlyV a p) (onlyV b p) with
  | true => rfl
  | false => rw [pref_no hc] at h; cases h
theorem prefB_of {a b : List (Nat → Int)} (h : ∀ p, preB (onlyV a p) (onlyV b p) = true) : prefB a b = true := by
  unfold prefB
  rw [List.all_eq_true]
  exact fun x _ => h (keyL x)
theorem preB_self (v : List (Int × Int)) : preB v v = true := preB_iff.2 ⟨Nat.le_refl _, by rw [List.take_length]⟩
theorem prefB_self (a : List (Nat → Int)) : prefB a a = true := prefB_of fun p => preB_self _
theorem prefB_nil (a : List (Nat → Int)) : prefB [] a = true := rfl
theorem alike_eq (a b : List (Nat → Int)) : (decide (a.length = b.length) && prefB a b) = (prefB a b && prefB b a) := by
  cases hp : prefB a b with
  | false => rw [Bool.and_false, Bool.false_and]
  | true =>
    rw [Bool.and_true, Bool.true_and]
    have hle : ∀ p, (a.map keyL).count p ≤ (b.map keyL).count p := fun p => by
      rw [← onlyV_count, ← onlyV_count]
      exact (preB_iff.1 (prefB_at hp p)).1
    obtain ⟨h1, h2⟩ := count_le _ _ hle
    rw [List.length_map, List.length_map] at h1 h2
    by_cases hl : a.length = b.length
    · rw [decide_eq_true hl]
      have h3 := h2 hl
      refine (prefB_of fun p => ?_).symm
      have h4 := preB_iff.1 (prefB_at hp p)
      have h5 : (onlyV a p).length = (onlyV b p).length := by rw [onlyV_count, onlyV_count]; exact h3 p
      have h6 : onlyV a p = onlyV b p := by rw [h4.2, h5, List.take_length]
      rw [h6]
      exact preB_self _
    · rw [decide_eq_false hl]
      cases hq : prefB b a with
      | false => rfl
      | true =>
        exfalso
        have hle2 : ∀ p, (b.map keyL).count p ≤ (a.map keyL).count p := fun p => by
          rw [← onlyV_count, ← onlyV_count]
          exact (preB_iff.1 (prefB_at hq p)).1
        have h3 := (count_le _ _ hle2).1
        rw [List.length_map, List.length_map] at h3
        omega
end Go.Proofs.YtfakgidimekikaaGreat
