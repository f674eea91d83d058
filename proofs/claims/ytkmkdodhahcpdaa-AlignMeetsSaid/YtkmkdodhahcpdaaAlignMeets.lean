/- AlignMeets: the walk. -/
import Derived.Test.YtkmkdodhahcpdaaMeetsB
import Derived.Laws.EntriesVeiled
namespace Go.Proofs.Ytkmkdodhahcpdaa
open Go.RowKit Go.Fb
theorem make_ints (n : Nat) (h : n ≤ 64) (W : World) : (Instr.makeSlice 22 (.int .i64 (n : Int)) (.int .i64 (n : Int))).run Try.prog W = .ok (.slice (some ⟨W.heap.size, 0, none⟩) n n) (W.alloc (.cells (cellsN (fun _ => 0) n) 3)) := by
  obtain ⟨i, hi, hz, hsz, hby⟩ := info_parts intinfo
  have hr := run_make (P := Try.prog) W 22 3 i (.int .i64 0) Try.underlying22 hi hz .i64 .i64 n n (by omega) (by omega) (by rw [hby]; omega) (by omega)
  simp only [Int.toNat_natCast] at hr
  have hmc : madeCells (Value.int .i64 0).cells (n * i.size) = cellsN (fun _ => 0) n := by
    rw [hsz, Nat.mul_one]
    apply Array.ext
    · simp [size_madeCells, cellsN]
    · intro j h1 h2
      simp [madeCells, Value.cells, Nat.mod_one, cellsN]
  rw [hmc] at hr
  exact hr
set_option maxRecDepth 100000 in
set_option maxHeartbeats 4000000 in
theorem walk_AlignMeets (A : Option Addr) (N cA : Nat) (K : Nat → List Bool) (hNc : N ≤ cA) (_hcA : cA ≤ maxLen) (A2 : Option Addr) (n2 c2 : Nat) (ys : List Int) (_hnc2 : n2 ≤ c2) (_hcm2 : c2 ≤ maxLen) (w : World)
    (hr : Rows2 w w.heap.size A N K) (hr2 : Reads w w.heap.size 1 A2 n2 (ys.map (Value.int .u8))) (hwf : ∀ x ∈ ys, (Lit.int .u8 x).wf = true) :
    Calls Try.prog 6 #[.slice A N cA, .slice A2 n2 c2] w fun e w' => e = .returned (.bool true) ∧ Below w.heap.size w w' := by
  have HA := Lib.hid awake19
  unfold maxLen at _hcA _hcm2
  have HK := Lib.hid hr
  have HR2 := Lib.hid hr2
  have HWF := Lib.hid hwf
  clear hr hr2 hwf
  have HMK := Lib.hid make_ints
  go_enter Try.func6, Try.ntmps6
  go_wp2_with fail
  have B0 := Lib.hid (Blk.new w 52 #[.slice A N cA])
  have F0 := Lib.hid ((Fr.refl w.heap.size [] w).alloc (Nat.le_refl _) (.cells #[.slice A N cA] 52))
  generalize w.alloc _ = w0 at *
  refine (HA.out _).mono ?_
  rintro e w1 ⟨rfl, f1⟩
  have B1 := Lib.hid (B0.out.fr f1 B0.out.lt (by simp))
  have k0 := B1.out.cell 0
  have F1 := Lib.hid (F0.out.trans (f1.mono F0.out.size (by simp)))
  clear f1 F0 B0
  generalize hg2 : w.heap.size = g2 at *
  have HG := Lib.hid hg2
  clear hg2
  by_cases hN6 : N ≤ 6
  case neg =>
    go_wp2_with fail
    go_ret
    exact ⟨rfl, by rw [HG.out]; exact F1.out.below⟩
  by_cases hN1 : 1 ≤ N
  case neg =>
    go_wp2_with fail
    go_ret
    exact ⟨rfl, by rw [HG.out]; exact F1.out.below⟩
  by_cases hn2 : n2 ≤ 500
  case neg =>
    go_wp2_with fail
    go_ret
    exact ⟨rfl, by rw [HG.out]; exact F1.out.below⟩
  have l1 := B1.out.lt
  go_wp2_with fail
  have B2 := Lib.hid (B1.out.alloc (.cells #[.int .i64 0] 3))
  have M2 := Lib.hid (Blk.new w1 3 #[.int .i64 0])
  have F2 := Lib.hid (F1.out.alloc (by have := F1.out.size; have := HG.out; omega) (.cells #[.int .i64 0] 3))
  generalize w1.alloc _ = w2 at *
  have hg5 : g2 < w1.heap.size := l1
  generalize w1.heap.size = g5 at *
  clear k0 l1
  go_loopw [46] (fun i wr => ∃ k Mk : Nat, k ≤ N ∧ i = .int .i64 k ∧ Mk ≤ 60 ∧ (∀ c, c < k → (K c).count true ≤ Mk ∧ (K c).length ≤ 60) ∧ Blk wr g5 3 #[.int .i64 (Mk : Int)] ∧ Blk wr g2 52 #[.slice A N cA] ∧ Fr g2 [] w wr) (fun i _ => N - (intOf i).toNat)
  case atStart => exact ⟨0, 0, by omega, rfl, by omega, fun c h => absurd h (by omega), M2.out, B2.out, F2.out⟩
  case round =>
    obtain ⟨k, Mk, hk, rfl, hMk, hcs, hm, hb, hf⟩ := hrel
    have HCS := Lib.hid hcs
    have HM := Lib.hid hm
    have HB := Lib.hid hb
    have HF := Lib.hid hf
    clear hcs hm hb hf
    by_cases hkN : k < N
    · obtain ⟨bb, off, Ac, cc, rfl, hbb, hcell, hlc, hcm, hrd⟩ := HK.out k hkN
      have hcell' := (HF.out.cell (p := ⟨bb, off + k, none⟩) hbb (by simp)).trans hcell
      have RD := Lib.hid (hrd.fr HF.out (Nat.le_refl _) (by simp))
      have hki : (k : Int) < (N : Int) := by omega
      have c5 := HM.out.cell 0
      have f5 := HM.out.frozen 0
      unfold maxLen at hcm
      have HXS := Lib.hid (fun (j : Nat) (hj : j < (K k).length) => bs_some hj)
      clear hcell hrd
      generalize hKk : K k = l at *
      have HKK := Lib.hid hKk
      clear hKk
      generalize hln : l.length = n at *
      have HLN := Lib.hid hln
      clear hln
      go_wp2_with fail
      go_loop [8, 52] (fun s i => ∃ j : Nat, j ≤ n ∧ i = .int .i64 j ∧ s = .int .i64 ((l.take j).count true : Int)) (fun _ i => n - (intOf i).toNat)
      case atStart => exact ⟨0, by omega, rfl, by simp⟩
      case round =>
        obtain ⟨j, hj, rfl, rfl⟩ := hrel
        by_cases hjn : j < n
        · obtain ⟨x, hx⟩ := HXS.out j hjn
          obtain ⟨b2, o2, u, rfl, hb2, hu, hcl⟩ := RD.out.one hjn
          rw [List.getElem?_map, hx] at hu
          injection hu with hu
          subst hu
          have hji : (j : Int) < (n : Int) := by omega
          have hcnt : (l.take (j + 1)).count true = (l.take j).count true + if x then 1 else 0 := by
            rw [List.take_add_one, hx, List.count_append]
            cases x <;> simp
          have hle : (l.take j).count true ≤ j := by have := List.count_le_length (a := true) (l := l.take j); simp at this; omega
          have HCNT := Lib.hid hcnt
          clear hcnt hx
          generalize (l.take j).count true = q at *
          cases x with
          | true =>
            go_wp2_with fail
            go_round
            case rel => exact ⟨j + 1, by omega, by go_num, by rw [HCNT.out]; simp⟩
            case measure => simp [intOf]; omega
          | false =>
            go_wp2_with fail
            go_round
            case rel => exact ⟨j + 1, by omega, by go_num, by rw [HCNT.out]; simp⟩
            case measure => simp [intOf]; omega
        · obtain rfl : j = n := by omega
          have hlen := HLN.out
          rw [List.take_of_length_le (by omega)]
          have hle : l.count true ≤ l.length := List.count_le_length
          generalize hq : l.count true = q at *
          have HQ := Lib.hid hq
          clear hq
          have hqj : q ≤ j := by omega
          have hnext : ∀ (Mx : Nat), Mk ≤ Mx → q ≤ Mx → j ≤ 60 → ∀ c, c < k + 1 → (K c).count true ≤ Mx ∧ (K c).length ≤ 60 := by
            intro Mx h1 h2 h3 c hc
            rcases Nat.lt_or_ge c k with h | h
            · have := HCS.out c h; omega
            · obtain rfl : c = k := by omega
              rw [HKK.out, HQ.out]; omega
          have HN := Lib.hid hnext
          clear hnext
          by_cases hmq : Mk < q
          · by_cases hn60 : j ≤ 60
            · go_wp2_with fail
              go_roundw
              case rel => exact ⟨k + 1, q, by omega, by go_num, by omega, HN.out q (by omega) (by omega) hn60, by simpa using HM.out.set_ 0 (.int .i64 (q : Int)), HB.out.far (p := ⟨g5, 0, none⟩) (show g2 ≠ g5 by omega) _, HF.out.setCell (p := ⟨g5, 0, none⟩) (.inl (show g2 ≤ g5 by omega)) _⟩
              case measure => simp [intOf]; omega
            · go_wp2_with fail
              go_ret
              exact ⟨rfl, by rw [HG.out]; exact (HF.out.setCell (p := ⟨g5, 0, none⟩) (.inl (show g2 ≤ g5 by omega)) _).below⟩
          · by_cases hn60 : j ≤ 60
            · go_wp2_with fail
              go_roundw
              case rel => exact ⟨k + 1, Mk, by omega, by go_num, by omega, HN.out Mk (by omega) (by omega) hn60, by simpa using HM.out.set_ 0 (.int .i64 (Mk : Int)), HB.out.far (p := ⟨g5, 0, none⟩) (show g2 ≠ g5 by omega) _, HF.out.setCell (p := ⟨g5, 0, none⟩) (.inl (show g2 ≤ g5 by omega)) _⟩
              case measure => simp [intOf]; omega
            · go_wp2_with fail
              go_ret
              exact ⟨rfl, by rw [HG.out]; exact (HF.out.setCell (p := ⟨g5, 0, none⟩) (.inl (show g2 ≤ g5 by omega)) _).below⟩
    · obtain rfl : k = N := by omega
      have k2 := HB.out.cell 0
      go_wp2_with fail
      refine (anew_yes k _ (by omega)).mono ?_
      rintro e w3 ⟨rfl, a3, f3⟩
      have k3 := (HB.out.fr f3 HB.out.lt (by simp)).cell 0
      have l3 := (HB.out.fr f3 HB.out.lt (by simp)).lt
      have hmkI := fun W => HMK.out k (by omega) W
      clear k2
      go_wp2_with fail
      have INV := Lib.hid (minv_start (HB.out.fr f3 HB.out.lt (by simp)) (HM.out.fr f3 HM.out.lt (by simp)) a3 ((HF.out.mono (B' := w.heap.size) (by rw [HG.out]; exact Nat.le_refl _) (by simp)).trans (f3.mono (by have := HF.out.size; have := HG.out; omega) (by simp))) ⟨by rw [HG.out]; exact Nat.le_refl _, hg5, HM.out.lt, by omega⟩)
      have HME := Lib.hid (meets_start (K := K) (N := k) (M := Mk) (by omega) (fun c hc => (HCS.out c hc).1))
      have HSB : RowKit.Hid (sm (fun c => tot (K c) Mk) k ≤ 720) := Lib.hid (by
        have h1 := sm_bound (f := fun c => tot (K c) Mk) (b := 120) (n := k) fun c hc => by have := HCS.out c hc; show tot (K c) Mk ≤ 120; unfold tot; omega
        omega)
      clear a3 f3 k3 l3 hmkI hg5
      generalize w3.heap.size + 1 + 1 + 1 + 1 = g16 at *
      generalize w3.heap.size + 1 + 1 + 1 = g14 at *
      generalize w3.heap.size + 1 + 1 = ge at *
      generalize w3.heap.size + 1 = g13 at *
      generalize w3.heap.size = ga at *
      generalize wr.heap.size + 1 = g at *
      generalize wr.heap.size = gb at *
      generalize hw8 : World.alloc _ _ = w8 at INV ⊢
      clear hw8
      clear hk hkN
      generalize k = N at *
      go_loopw [15, 17] (fun s i wr => ∃ (n met : Nat) (at_ : Nat → Nat) (bs : List Bool) (b : Bool) (epo many last : Int), n ≤ 2000 ∧ i = .int .i64 n ∧ s = .int .i64 met ∧
        MInv w wr A N cA Mk g2 g5 gb g ga g13 ge g14 g16 bs b epo many last at_ (fun c => epc (K c) (at_ c)) ∧ Meets K N Mk at_ met bs ∧ -1 ≤ last ∧ last < N ∧ many = (bs.count true : Int) ∧ (many ≤ 0 ∨ (b = true ∧ epo = met + 1)) ∧
        (sm (fun c => tot (K c) Mk) N ≤ sm at_ N ∨ n ≤ 500 + sm at_ N)) (fun _ i _ => 2000 - (intOf i).toNat)
      case atStart =>
        refine ⟨0, 0, fun _ => 0, List.replicate N false, false, 0, 0, (N : Int) - 1, by omega, rfl, rfl, ?_, HME.out, by omega, by omega, ?_, .inl (by omega), .inr (by omega)⟩
        · have := INV.out
          rw [show (fun c => epc (K c) ((fun _ => 0) c)) = (fun _ : Nat => 0) from funext fun c => epc_zero _]
          exact this
        · simp [List.count_replicate]
      case round =>
        obtain ⟨n, met, at_, bs, b, epo, many, last, hn, rfl, rfl, hinv, hme, hl0, hl1, hmany, hmm, hprog⟩ := hrel
        have INV := Lib.hid hinv
        have ME := Lib.hid hme
        have HMY := Lib.hid hmany
        have HMM := Lib.hid hmm
        have HPR := Lib.hid hprog
        clear hinv hme hmany hmm hprog
        by_cases hn2000 : n < 2000
        · have HKw : RowKit.Hid (Rows2 w w.heap.size A N K) := Lib.hid (by rw [HG.out]; exact HK.out)
          have hord := INV.out.ord
          have hmet : met ≤ 60 := by have := ME.out.met_le; omega
          rcases Nat.lt_or_ge n n2 with hnh | hnh
          case' inl =>
            obtain ⟨bb, off, u, hA2, hbb, hu, hcell⟩ := (HR2.out.fr (INV.out.fr.mono (B' := g2) (L' := []) (by rw [HG.out]; exact Nat.le_refl _) (by simp)) (Nat.le_refl _) (by simp)).one hnh
            subst hA2
            obtain ⟨mk, hx, rfl⟩ : ∃ x, ys[n]? = some x ∧ u = .int .u8 x := by
              rw [List.getElem?_map] at hu
              cases h : ys[n]? with
              | none => rw [h] at hu; cases hu
              | some x => rw [h] at hu; injection hu with hu; exact ⟨x, rfl, hu.symm⟩
            have hxb : 0 ≤ mk ∧ mk ≤ 255 := by have := HWF.out mk (List.mem_of_getElem? hx); simp [Lit.wf, IntKind.min, IntKind.max, IntKind.bits, IntKind.signed] at this; omega
            have hmk : 500 ≤ n → mk = 255 := fun h => by omega
            have hni : (n : Int) < (n2 : Int) := by omega
            have hbw : bb < wr.heap.size := by have := INV.out.l2.lt; omega
            clear hu hx
            go_wp2_with fail
          case' inr =>
            have hni : ¬ (n : Int) < (n2 : Int) := by omega
            go_wp2_with fail
            obtain ⟨mk, hmk0⟩ : ∃ mk : Int, mk = 255 := ⟨_, rfl⟩
            have hmk : 500 ≤ n → mk = 255 := fun _ => hmk0
            rw [← hmk0]
          all_goals
            have H18 := Lib.hid (Blk.new wr 3 #[.int .i64 mk])
            have INV := MInv.keep INV ((Fr.refl wr.heap.size [] wr).alloc (Nat.le_refl _) (.cells #[.int .i64 mk] 3))
            generalize wr.alloc _ = w9 at *
            generalize wr.heap.size = g18 at *
            refine (pick_meets INV HKw.out ME.out mk g18 H18.out hN6 hl0 hl1).mono ?_
            rintro e w10 ho
            rcases ho with ⟨q, hq, hf, hno, rfl, ha, hfr⟩ | ⟨hno, rfl, hfr⟩
          case inl.inl | inr.inl =>
            rw [ME.out.len] at ha ⊢
            obtain ⟨hx, hi, hic⟩ := picked ME.out.len hf
            have INV := MInv.turn INV (hfr.mono (L' := [g, gb]) (Nat.le_refl _) (fun k hk _ => by simp at hk ⊢; exact .inl hk)) ha
            clear ha hfr hno hf
            have hcN : pickC last N q < N := by have := some_lt hx; rw [ME.out.len] at this; exact this
            generalize pickC last N q = c at *
            have k16 := INV.out.f16.cell 0
            have hent : ∀ (args : Array Value) (w : World), (callFunc 30 args).run Try.prog w = .ok (.enter 30 args) w := fun args w => by kernel_rfl
            go_wp2_with fail
            clear k16
            refine (item_any INV HKw.out c hcN (ME.out.cnt c hcN) rfl).mono ?_
            rintro e w11 ⟨rfl, f11⟩
            rw [hic]
            have INV := MInv.keep INV f11
            clear f11
            have hep0 : epc (K c) (at_ c) = met := by have := ME.out.blk c false hx; simpa using this
            have k14 := INV.out.b14.cell 0
            have ke : w11.cell? ⟨ge, c, none⟩ = some (.int .i64 (met : Int)) := by
              rw [INV.out.eps.cell c, cellsN_get _ hcN]
              show some (Value.int .i64 ((epc (K c) (at_ c) : Nat) : Int)) = _
              rw [hep0]
            have k13 := INV.out.b13.cell 0
            have ka : w11.cell? ⟨ga, c, none⟩ = some (.int .i64 (at_ c : Int)) := by rw [INV.out.ats.cell c, cellsN_get _ hcN]
            have fa := INV.out.ats.frozen c
            have fe := INV.out.eps.frozen c
            have hci : (c : Int) < (N : Int) := by omega
            have hatb : at_ c < 121 := by have := HCS.out c hcN; unfold tot at hi; omega
            have q1 : ga ≠ ge := by omega
            have q2 : ge ≠ ga := by omega
            have q3 : g13 ≠ ga := by omega
            have q4 : g14 ≠ ga := by omega
            have q5 : g14 ≠ ge := by omega
            have q6 : g13 ≠ ge := by omega
            have EP0 := Lib.hid hep0
            have HX := Lib.hid hx
            have HI := Lib.hid hi
            have hsm := sm_upd at_ hcN
            have HSM := Lib.hid hsm
            clear hep0 hx hi hsm hic
            have INVa := MInv.setAt INV c (at_ c + 1)
            rw [show ((at_ c + 1 : Nat) : Int) = (at_ c : Int) + 1 by omega] at INVa
            rcases Bool.eq_false_or_eq_true (barC K at_ c) with hb | hb
            · have HB2 := Lib.hid hb
              rw [hb]
              clear hb
              have INVb := MInv.setEp INVa c (met + 1)
              rw [show ((met + 1 : Nat) : Int) = (met : Int) + 1 by omega, ← EP0.out, ← ep_bar HB2.out, EP0.out] at INVb
              go_wp2_with fail
              clear k14 ke k13 ka fa fe
              generalize World.setCell (World.setCell w11 ⟨ga, c, none⟩ _) ⟨ge, c, none⟩ _ = w12 at INVb ⊢
              have hmb : 0 ≤ many ∧ many ≤ 6 := by
                have h1 := HMY.out
                have h2 := List.count_le_length (a := true) (l := bs)
                rw [ME.out.len] at h2
                omega
              refine (block_ok INVb.out.al c HX.out 0 0 0 ((met : Int) + 1) false (HMM.out.imp (fun h => by omega) (fun h => ⟨h.1, h.2, rfl⟩)) (by omega) (by omega)).mono ?_
              rintro e w13 ⟨rfl, a13, f13⟩
              have INVc := MInv.turn INVb f13 a13
              clear a13 f13
              have hmy' : many + 1 = ((bs.set c true).count true : Int) := by rw [count_set HX.out, HMY.out]; omega
              have HMY' := Lib.hid hmy'
              have hlen' : (bs.set c true).length = N := by rw [List.length_set]; exact ME.out.len
              rcases Classical.em (∃ d : Nat, (bs.set c true)[d]? = some false) with ho | ho
              · have hmB : metB (many + 1) (bs.set c true).length = false := by
                  have h1 := count_lt ho
                  have h2 : many + 1 < ((bs.set c true).length : Int) := by omega
                  simp only [metB, decide_eq_true h2, Bool.or_true, Bool.not_true]
                have MEn := Lib.hid (ME.out.wait hcN HX.out HI.out HB2.out ho)
                clear ho hmy' hlen'
                go_wp2_with fail
                refine (met_no INVc.out.al hmB).mono ?_
                rintro e w14 ⟨rfl, f14⟩
                have INVd := MInv.keep INVc f14
                clear f14 hmB
                go_wp2_with fail
                go_roundw
                case rel => exact ⟨n + 1, met, _, bs.set c true, true, (met : Int) + 1, many + 1, c, by omega, by go_num, rfl, (MInv.keep INVd ((Fr.refl w14.heap.size [] w14).alloc (Nat.le_refl _) (.cells It0 66))).out, MEn.out, by omega, by omega, HMY'.out, .inr ⟨rfl, rfl⟩, by rw [HSM.out]; have := HPR.out; omega⟩
                case measure => simp [intOf]; omega
              · have hmB : metB (many + 1) (bs.set c true).length = true := by
                  have h1 := count_all ho
                  have h2 : ¬ many + 1 < ((bs.set c true).length : Int) := by omega
                  have h3 : (many + 1 == 0) = false := by simp; omega
                  simp only [metB, h3, decide_eq_false h2]; rfl
                obtain ⟨men, hall⟩ := ME.out.meet hcN HX.out HI.out HB2.out ho
                have MEn := Lib.hid men
                have HALL := Lib.hid hall
                clear ho hmy' hlen' men hall
                go_wp2_with fail
                refine (met_yes INVc.out.al hmB).mono ?_
                rintro e w14 ⟨rfl, f14⟩
                have INVd := MInv.keep INVc f14
                clear f14 hmB
                have k14 := INVd.out.b14.cell 0
                have l14 := INVd.out.b14.lt
                go_wp2_with fail
                have INVe := MInv.keep INVd ((Fr.refl w14.heap.size [] w14).alloc (Nat.le_refl _) (.cells (It true 0 0 0 ((met : Int) + 1) false) 66))
                clear k14 l14
                generalize w14.alloc _ = w15 at *
                have k14 := INVe.out.b14.cell 0
                have HEC : RowKit.Hid (∀ j, j < N → w15.cell? ⟨ge, j, none⟩ = some (.int .i64 ((met : Int) + 1))) := Lib.hid fun j hj => by
                  rw [INVe.out.eps.cell j, cellsN_get _ hj]
                  show some (Value.int .i64 ((epc (K j) (upd at_ c (at_ c + 1) j) : Nat) : Int)) = _
                  rw [HALL.out j hj]
                  rfl
                go_loop [155] (fun i => ∃ j : Nat, j ≤ N ∧ i = .int .i64 j) (fun i => N - (intOf i).toNat)
                case atStart => exact ⟨0, by omega, rfl⟩
                case round =>
                  obtain ⟨j, hj, rfl⟩ := hrel
                  by_cases hjN : j < N
                  · have kj := HEC.out j hjN
                    have hji : (j : Int) < (N : Int) := by omega
                    go_wp2_with fail
                    go_round
                    case rel => exact ⟨j + 1, by omega, by go_num⟩
                    case measure => simp [intOf]; omega
                  · obtain rfl : j = N := by omega
                    go_wp2_with fail
                    refine (clear_any INVe.out.al).mono ?_
                    rintro e w16 ⟨rfl, a16, f16⟩
                    have INVf := MInv.turn INVe f16 a16
                    clear a16 f16
                    go_wp2_with fail
                    go_roundw
                    case rel =>
                      refine ⟨n + 1, met + 1, _, List.replicate j false, false, 0, 0, c, by omega, by go_num, by go_num, ?_, MEn.out, by omega, by omega, by simp [List.count_replicate], .inl (by omega), by rw [HSM.out]; have := HPR.out; omega⟩
                      have := INVf.out
                      rwa [List.length_set, ME.out.len] at this
                    case measure => simp [intOf]; omega
            · have HB2 := Lib.hid hb
              rw [hb]
              clear hb
              rw [← ep_plain HB2.out] at INVa
              have MEn := Lib.hid (ME.out.plain hcN HI.out HB2.out)
              go_wp2_with fail
              go_roundw
              case rel => exact ⟨n + 1, met, _, bs, b, epo, many, c, by omega, by go_num, rfl, INVa.out, MEn.out, by omega, by omega, HMY.out, HMM.out, by rw [HSM.out]; have := HPR.out; omega⟩
              case measure => simp [intOf]; omega
          all_goals
            have INV := MInv.keep INV hfr
            have hp : sm (fun c => tot (K c) Mk) N ≤ sm at_ N ∨ n + 1 ≤ 500 + sm at_ N := by
              rcases Nat.lt_or_ge n 500 with h | h
              · exact .inr (by omega)
              · rw [hmk h] at hno
                exact .inl (not_picked ME.out hN6 hl0 hno)
            have HP := Lib.hid hp
            clear hno hfr hp
            go_wp2_with fail
            go_roundw
            case rel => exact ⟨n + 1, met, at_, bs, b, epo, many, last, by omega, by go_num, rfl, INV.out, ME.out, hl0, hl1, HMY.out, HMM.out, HP.out⟩
            case measure => simp [intOf]; omega
        · obtain rfl : n = 2000 := by omega
          have hall : ∀ c, c < N → at_ c = tot (K c) Mk := sm_eq ME.out.le (by have := HPR.out; have := HSB.out; omega)
          have hfin := ME.out.final hall
          have HALL := Lib.hid hall
          clear hall
          have k2 := INV.out.l2.cell 0
          go_wp2_with fail
          clear k2
          go_loopw [172] (fun i wr => ∃ j : Nat, j ≤ N ∧ i = .int .i64 j ∧ MInv w wr A N cA Mk g2 g5 gb g ga g13 ge g14 g16 bs b epo many last at_ (fun c => epc (K c) (at_ c))) (fun i _ => N - (intOf i).toNat)
          case atStart => exact ⟨0, by omega, rfl, INV.out⟩
          case round =>
            obtain ⟨j, hj, rfl, hinv⟩ := hrel
            have INV := Lib.hid hinv
            clear hinv
            by_cases hjN : j < N
            · have k16 := INV.out.f16.cell 0
              have hent : ∀ (args : Array Value) (w : World), (callFunc 30 args).run Try.prog w = .ok (.enter 30 args) w := fun args w => by kernel_rfl
              have hji : (j : Int) < (N : Int) := by omega
              go_wp2_with fail
              refine (item_any INV (by rw [HG.out]; exact HK.out) j hjN (ME.out.cnt j hjN) rfl).mono ?_
              rintro e w11 ⟨rfl, f11⟩
              have hic : isC K Mk at_ j = false := by unfold isC; rw [HALL.out j hjN]; simp
              rw [hic]
              have INV := MInv.keep INV f11
              clear f11 k16 hic
              go_wp2_with fail
              go_roundw
              case rel => exact ⟨j + 1, by omega, by go_num, INV.out⟩
              case measure => simp [intOf]; omega
            · obtain rfl : j = N := by omega
              have k5 := INV.out.m5.cell 0
              subst hfin
              go_wp2_with fail
              go_ret
              exact ⟨rfl, INV.out.fr.below⟩
end Go.Proofs.Ytkmkdodhahcpdaa
