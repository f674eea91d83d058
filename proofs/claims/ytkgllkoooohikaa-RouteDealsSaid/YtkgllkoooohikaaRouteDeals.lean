/- forebaylaw09.RouteDeals. -/
import Derived.Test.YtkgllkoooohikaaBalance
import Derived.Test.YtkgllkoooohikaaRouteD
import Derived.Deep.DeepCutAuto
namespace Go.Proofs.Ytkgllkoooohikaa
open Go.RowKit Go.Fb
/-- The document's deal: at each step the heaviest that is left. -/
def docS (p : Nat) (W : Nat → Int) : Nat → Deal
  | 0 => ⟨fun _ => 0, fun _ => false, fun _ => 0⟩
  | k + 1 => dealStep p W (pickB (docS p W k).d W 8).toNat (docS p W k)
structure DocInv (k : Nat) (s : Deal) : Prop where
  many : sum8 (fun g => if s.d g = true then 1 else 0) = k
  h4 : ∀ t, 0 ≤ s.h t ∧ s.h t ≤ k * 1048576
theorem DocInv.pick {k : Nat} {s : Deal} (I : DocInv k s) (hk : k < 8) (W : Nat → Int) : ∃ b : Nat, b < 8 ∧ pickB s.d W 8 = b ∧ s.d b = false := by
  rcases pickB_spec s.d W 8 with ⟨_, h⟩ | ⟨b, hb, e, hd, _⟩
  · have := I.many
    rw [sum8_congr (fun _ => 1) _ (fun j hj => by rw [if_pos (h j hj)])] at this
    simp [sum8] at this
    omega
  · exact ⟨b, hb, e, hd⟩
theorem docS_inv (p : Nat) (W : Nat → Int) (hW : ∀ g, 0 ≤ W g ∧ W g ≤ 1048576) (k : Nat) (hk : k ≤ 8) : DocInv k (docS p W k) := by
  induction k with
  | zero => exact ⟨rfl, fun t => ⟨Int.le_refl _, by show (0 : Int) ≤ _; omega⟩⟩
  | succ k ih =>
    have I := ih (by omega)
    obtain ⟨b, hb, e, hd⟩ := I.pick (by omega) W
    show DocInv (k + 1) (dealStep p W (pickB (docS p W k).d W 8).toNat (docS p W k))
    rw [e]
    generalize docS p W k = s at *
    rw [Int.toNat_natCast]
    refine ⟨?_, fun t => ?_⟩
    · show sum8 (fun g => if upd s.d b true g = true then 1 else 0) = _
      rw [sum8_change (fun g => if s.d g = true then 1 else 0) _ b hb (fun j _ hj => by simp only [upd, if_neg hj]), I.many]
      simp only [upd, if_pos trivial, hd]
      simp
    · show 0 ≤ upd s.h _ _ t ∧ upd s.h _ _ t ≤ _
      have a := I.h4 t
      have c := I.h4 (leastP s.h p)
      have hw := hW b
      unfold upd; split <;> (constructor <;> (try push_cast) <;> omega)
/-- The deal of the sorted list is the document's. -/
theorem docS_is {p : Nat} (hp : 0 < p) {W : Nat → Int} (hW : ∀ g, 0 ≤ W g ∧ W g ≤ 1048576) {xs : List Int} (D : Deck (fun x => W x.toNat) xs) (ho : ∀ g : Nat, g < 8 → ∃ k, k < 8 ∧ xs.getD k 0 = (g : Int)) (k : Nat) (hk : k ≤ 8) : dealS p W (deckP xs) k = docS p W k := by
  induction k with
  | zero => rfl
  | succ k ih =>
    have e := ih (by omega)
    have I := dealS_inv p hp W hW (deckP xs) (deck_inj D) (deck_lt D) k (by omega)
    show dealStep p W (deckP xs k) (dealS p W (deckP xs) k) = dealStep p W (pickB (docS p W k).d W 8).toNat (docS p W k)
    rw [← e, deck_pick D ho _ k (by omega) I.d1, Int.toNat_natCast]
theorem a8_eql (r : Nat → Int) (w : World) : (binOp .eql 64 (A8 r) (A8 r)).run Try.prog w = .ok (.bool true) w := by
  simp only [binOp, Op.equal, Op.maxDepth, Sem.run_bind, eq8_self, Result.andThen_ok]
  rfl
theorem a3_eql (r : Nat → Int) (w : World) : (binOp .eql 66 (A3 r) (A3 r)).run Try.prog w = .ok (.bool true) w := by
  simp only [binOp, Op.equal, Op.maxDepth, Sem.run_bind, eq3_self, Result.andThen_ok]
  rfl
theorem balance_doc (par : Int) (p : Nat) (s : Nat → Int) (w : World) (hp : (p : Int) = clampP par) (hp0 : 0 < p) : Calls Try.prog 30 #[.int .i64 par, A8 s] w fun e w' => e = .returned (A8 (docS p (dealW s) 8).r) ∧ Fr w.heap.size [] w w' :=
  (balance_any par p s w hp).mono fun e w' ⟨xs, h1, h2, h3⟩ => ⟨by rw [h1, docS_is hp0 (dealW_range s) (deck_of h2) (onto_of h2) 8 (Nat.le_refl _)], h3⟩
theorem loads_doc (p : Nat) (s : Nat → Int) (xs : List Int) (hp0 : 0 < p) (h : ∃ j, St (cmpW s) [0, 1, 2, 3, 4, 5, 6, 7] 8 j xs) : loadOf (dealW s) (docS p (dealW s) 8).r 8 = (docS p (dealW s) 8).h := by
  have e := docS_is hp0 (dealW_range s) (deck_of h) (onto_of h) 8 (Nat.le_refl _)
  have D := deck_of h
  have I := dealS_inv p hp0 (dealW s) (dealW_range s) (deckP xs) (deck_inj D) (deck_lt D) 8 (Nat.le_refl _)
  rw [e] at I
  exact funext fun t => (dealS_load I (deck_onto (onto_of h)) t).symm
/-- The law's own blocks. -/
structure DocMem (w0 : World) (gw : Nat) (s W : Nat → Int) (S : Deal) (wx : World) : Prop where
  bs : Blk wx w0.heap.size 64 (C8 s)
  bw : Blk wx gw 64 (C8 W)
  want : Blk wx (gw + 1) 64 (C8 S.r)
  dealt : Blk wx (gw + 2) 65 (CB8 S.d)
  has : Blk wx (gw + 3) 66 (C3 S.h)
  bel : Below w0.heap.size w0 wx
theorem St.round {c : Int → Int → Int} {xs0 : List Int} : ∀ {j i : Nat} {xs : List Int}, St c xs0 i j xs → j < xs0.length → ∃ xs', St c xs0 (i + 1) (i + 1) xs'
  | 0, i, xs, h, _ => ⟨xs, h.next (.inl rfl)⟩
  | j + 1, i, xs, h, hj => by
    by_cases hc : c (xs.getD (j + 1) 0) (xs.getD (j + 1 - 1) 0) < 0
    · exact St.round (h.swap (by omega) (by rw [h.len]; exact hj) hc) (by omega)
    · exact ⟨xs, h.next (.inr hc)⟩
theorem St.all {c : Int → Int → Int} {xs0 : List Int} : ∀ n, 1 ≤ n → n ≤ xs0.length → ∃ xs, St c xs0 n n xs
  | 0, h, _ => by omega
  | 1, _, _ => ⟨_, .start⟩
  | n + 2, _, h => by
    obtain ⟨xs, hs⟩ := St.all (c := c) (xs0 := xs0) (n + 1) (by omega) (by omega)
    exact hs.round (by omega)
theorem loads_of_doc (p : Nat) (s : Nat → Int) (hp0 : 0 < p) : loadOf (dealW s) (docS p (dealW s) 8).r 8 = (docS p (dealW s) 8).h := by
  obtain ⟨xs, h⟩ := St.all (c := cmpW s) (xs0 := [0, 1, 2, 3, 4, 5, 6, 7]) 8 (by omega) (by decide)
  exact loads_doc p s xs hp0 ⟨8, h⟩
/-- What the law's last statement leans on. -/
def EndInv (w0 : World) (gw : Nat) (s R H : Nat → Int) (wx : World) : Prop := Blk wx w0.heap.size 64 (C8 s) ∧ Blk wx (gw + 1) 64 (C8 R) ∧ Blk wx (gw + 3) 66 (C3 H) ∧ Below w0.heap.size w0 wx
theorem EndInv.step {w0 : World} {gw : Nat} {s R H : Nat → Int} {wx wy : World} (h : RowKit.Hid (EndInv w0 gw s R H wx)) (hf : Fr wx.heap.size [] wx wy) : RowKit.Hid (EndInv w0 gw s R H wy) := by
  obtain ⟨h1, h2, h3, h5⟩ := h
  exact ⟨h1.fr hf h1.lt (by simp), h2.fr hf h2.lt (by simp), h3.fr hf h3.lt (by simp), h5.trans (hf.below.mono h5.size)⟩
theorem EndInv.cells {w0 : World} {gw : Nat} {s R H : Nat → Int} {wx : World} (h : EndInv w0 gw s R H wx) :
    wx.cell? ⟨w0.heap.size, 0, none⟩ = some (.int .i64 (s 0)) ∧ wx.cell? ⟨w0.heap.size, 1, none⟩ = some (.int .i64 (s 1)) ∧ wx.cell? ⟨w0.heap.size, 2, none⟩ = some (.int .i64 (s 2)) ∧ wx.cell? ⟨w0.heap.size, 3, none⟩ = some (.int .i64 (s 3)) ∧ wx.cell? ⟨w0.heap.size, 4, none⟩ = some (.int .i64 (s 4)) ∧ wx.cell? ⟨w0.heap.size, 5, none⟩ = some (.int .i64 (s 5)) ∧ wx.cell? ⟨w0.heap.size, 6, none⟩ = some (.int .i64 (s 6)) ∧ wx.cell? ⟨w0.heap.size, 7, none⟩ = some (.int .i64 (s 7)) ∧
    wx.cell? ⟨gw + 1, 0, none⟩ = some (.int .i64 (R 0)) ∧ wx.cell? ⟨gw + 1, 1, none⟩ = some (.int .i64 (R 1)) ∧ wx.cell? ⟨gw + 1, 2, none⟩ = some (.int .i64 (R 2)) ∧ wx.cell? ⟨gw + 1, 3, none⟩ = some (.int .i64 (R 3)) ∧ wx.cell? ⟨gw + 1, 4, none⟩ = some (.int .i64 (R 4)) ∧ wx.cell? ⟨gw + 1, 5, none⟩ = some (.int .i64 (R 5)) ∧ wx.cell? ⟨gw + 1, 6, none⟩ = some (.int .i64 (R 6)) ∧ wx.cell? ⟨gw + 1, 7, none⟩ = some (.int .i64 (R 7)) ∧
    wx.cell? ⟨gw + 3, 0, none⟩ = some (.int .i64 (H 0)) ∧ wx.cell? ⟨gw + 3, 1, none⟩ = some (.int .i64 (H 1)) ∧ wx.cell? ⟨gw + 3, 2, none⟩ = some (.int .i64 (H 2)) := by
  obtain ⟨h1, h2, h3, _⟩ := h
  exact ⟨h1.cell 0, h1.cell 1, h1.cell 2, h1.cell 3, h1.cell 4, h1.cell 5, h1.cell 6, h1.cell 7, h2.cell 0, h2.cell 1, h2.cell 2, h2.cell 3, h2.cell 4, h2.cell 5, h2.cell 6, h2.cell 7, h3.cell 0, h3.cell 1, h3.cell 2⟩
set_option maxRecDepth 100000 in
set_option maxHeartbeats 4000000 in
theorem walk_RouteDeals (par : Int) (_ : (Lit.int .i64 par).wf = true) (s : Nat → Int) (w : World) :
    Calls Try.prog 8 #[.int .i64 par, A8 s] w fun e w' => e = .returned (.bool true) ∧ Below w.heap.size w w' := by
  obtain ⟨p, hp⟩ : ∃ p : Nat, (p : Int) = clampP par := Int.eq_ofNat_of_zero_le (show 0 ≤ clampP par by unfold clampP; split <;> (try split) <;> omega) |>.imp fun _ h => h.symm
  have hcl : (par < 1 ∧ p = 1) ∨ (3 < par ∧ p = 3) ∨ (1 ≤ p ∧ p ≤ 3 ∧ par = (p : Int)) := by
    have hp := hp
    unfold clampP at hp
    split at hp <;> (try split at hp) <;> omega
  have hp3 : 1 ≤ p ∧ p ≤ 3 := by omega
  have HP := Lib.hid hp
  have HCL := Lib.hid hcl
  clear hp hcl
  go_enter Try.func8, Try.ntmps8
  go_wp2_with fail
  have hb := Blk.new w 64 (C8 s)
  have b0 := (Below.refl _ w).alloc (Nat.le_refl _) (.cells (C8 s) 64)
  generalize w.alloc _ = w1 at *
  refine (awake09 _).mono ?_
  rintro e w2 ⟨rfl, b1⟩
  have B2 := Lib.hid (hb.below b1 hb.lt)
  have BL2 := Lib.hid (b0.trans (b1.mono b0.size))
  clear hb b0 b1
  have h0 := B2.out.cell 0
  have h1 := B2.out.cell 1
  have h2 := B2.out.cell 2
  have h3 := B2.out.cell 3
  have h4 := B2.out.cell 4
  have h5 := B2.out.cell 5
  have h6 := B2.out.cell 6
  have h7 := B2.out.cell 7
  have hgs : w.heap.size < w2.heap.size := B2.out.lt
  go_wp2_with fail
  clear h0 h1 h2 h3 h4 h5 h6 h7
  have BW := Lib.hid (Blk.new w2 64 (C8 fun _ => 0))
  have BS := Lib.hid (B2.out.alloc (.cells (C8 fun _ => 0) 64))
  have BL := Lib.hid (BL2.out.alloc BL2.out.size (.cells (C8 fun _ => 0) 64))
  have hsz : (w2.alloc (.cells (C8 fun _ => 0) 64)).heap.size = w2.heap.size + 1 := by simp
  generalize hw3 : w2.alloc (.cells (C8 fun _ => 0) 64) = w3 at *
  have HSZ := Lib.hid hsz
  clear B2 BL2 hw3 hsz
  generalize w2.heap.size = gw at *
  go_loopw [20] (fun i wr => ∃ k : Nat, k ≤ 8 ∧ i = .int .i64 k ∧ RowKit.Hid (Blk wr gw 64 (C8 fun j => if j < k then dealW s j else 0)) ∧ RowKit.Hid (Blk wr w.heap.size 64 (C8 s)) ∧ RowKit.Hid (Below w.heap.size w wr) ∧ RowKit.Hid (wr.heap.size = gw + 1)) (fun i _ => 8 - (intOf i).toNat)
  case atStart => exact ⟨0, by omega, rfl, by simpa using BW, BS, BL, HSZ⟩
  case round =>
    clear BW BS BL HSZ
    obtain ⟨k, hk, rfl, BW, BS, BL, HSZ⟩ := hrel
    by_cases hlt : k < 8
    · have hx := index8 s hlt
      have hki : (k : Int) < 8 := by omega
      have same : wgt (s k) = 0 → RowKit.Hid (Blk wr gw 64 (C8 fun j => if j < k + 1 then dealW s j else 0)) := fun hz => by
        rw [← C8_congr (r := fun j => if j < k then dealW s j else 0)]
        · exact BW
        · intro j _
          by_cases e : j = k
          · subst e; rw [if_neg (by omega), if_pos (by omega)]; exact hz.symm
          · by_cases h : j < k
            · rw [if_pos h, if_pos (by omega)]
            · rw [if_neg h, if_neg (by omega)]
      have SAME := Lib.hid same
      have hz0 := BW.out.frozen k
      have hcw := BW.out.cell k
      rw [C8_get _ hlt] at hcw
      clear same
      by_cases n1 : s k < 0
      · go_wp2_with fail
        go_roundw
        case rel => exact ⟨k + 1, by omega, by go_num, SAME.out (by unfold wgt; rw [if_pos (.inl n1)]), BS, BL, HSZ⟩
        case measure => simp [intOf]; omega
      by_cases n2 : 1048576 < s k
      · go_wp2_with fail
        go_roundw
        case rel => exact ⟨k + 1, by omega, by go_num, SAME.out (by unfold wgt; rw [if_pos (.inr n2)]), BS, BL, HSZ⟩
        case measure => simp [intOf]; omega
      · go_wp2_with fail
        go_roundw
        case rel =>
          refine ⟨k + 1, by omega, by go_num, ?_, BS.out.far (p := ⟨gw, k, none⟩) (by show w.heap.size ≠ gw; omega) _, BL.out.setCell (p := ⟨gw, k, none⟩) (by show w.heap.size ≤ gw; omega) _, ?_⟩
          · have h := blk_set1 BW.out hlt (s k)
            rw [C8_congr (r' := fun j => if j < k + 1 then dealW s j else 0)] at h
            · exact h
            · intro j _
              by_cases e : j = k
              · subst e; rw [if_pos rfl, if_pos (by omega)]
                show _ = wgt _
                unfold wgt; rw [if_neg (by omega)]
              · rw [if_neg e]
                by_cases h : j < k
                · rw [if_pos h, if_pos (by omega)]
                · rw [if_neg h, if_neg (by omega)]
          · have := HSZ.out
            show _ = _
            simpa [World.setCell] using this
        case measure => simp [intOf]; omega
    · obtain rfl : k = 8 := by omega
      have BW' := Lib.hid (by rw [← C8_congr (r := fun j => if j < 8 then dealW s j else 0) (fun j hj => by rw [if_pos hj])]; exact BW.out : Blk wr gw 64 (C8 (dealW s)))
      clear BW
      go_upto_region 10 with fail
      go_cut [8] (fun b wx => b = .int .i64 p ∧ wx = wr)
      case first =>
        rcases HCL.out with ⟨hcp, rfl⟩ | ⟨hcp, rfl⟩ | ⟨hcp1, hcp2, rfl⟩
        all_goals
          go_wp2_with fail
          go_meet
          exact ⟨rfl, rfl⟩
      case rest =>
        obtain ⟨rfl, rfl⟩ := hcut
        obtain ⟨hp1, hp3⟩ := hp3
        have MEM0 : RowKit.Hid (DocMem w gw s (dealW s) (docS p (dealW s) 0) (((wc.alloc (.cells (C8 fun _ => 0) 64)).alloc (.cells (CB8 fun _ => false) 65)).alloc (.cells (C3 fun _ => 0) 66))) := by
          have e1 := HSZ.out
          have e2 : (wc.alloc (.cells (C8 fun _ => 0) 64)).heap.size = gw + 2 := by simp [e1]
          have e3 : ((wc.alloc (.cells (C8 fun _ => 0) 64)).alloc (.cells (CB8 fun _ => false) 65)).heap.size = gw + 3 := by simp [e1]
          have b1 := Blk.new wc 64 (C8 fun _ => 0)
          have b2 := Blk.new (wc.alloc (.cells (C8 fun _ => 0) 64)) 65 (CB8 fun _ => false)
          have b3 := Blk.new ((wc.alloc (.cells (C8 fun _ => 0) 64)).alloc (.cells (CB8 fun _ => false) 65)) 66 (C3 fun _ => 0)
          rw [e1] at b1
          rw [e2] at b2
          rw [e3] at b3
          exact ⟨((BS.out.alloc _).alloc _).alloc _, ((BW'.out.alloc _).alloc _).alloc _, (b1.alloc _).alloc _, b2.alloc _, b3, ((BL.out.alloc BL.out.size _).alloc (by rw [e2]; omega) _).alloc (by rw [e3]; omega) _⟩
        have hz := HSZ.out
        clear BS BL BW'
        go_wp2_with fail
        generalize ((wc.alloc _).alloc _).alloc _ = wm at *
        obtain ⟨S, hS⟩ : ∃ S, S = docS p (dealW s) := ⟨_, rfl⟩
        have HS := Lib.hid hS
        rw [← hS] at MEM0
        have HI := Lib.hid (fun k (hk : k ≤ 8) => (by rw [hS]; exact docS_inv p (dealW s) (dealW_range s) k hk : DocInv k (S k)))
        have HNX := Lib.hid (fun k => (by rw [hS]; rfl : S (k + 1) = dealStep p (dealW s) (pickB (S k).d (dealW s) 8).toNat (S k)))
        clear hS hz HSZ
        go_loopw [12] (fun i wr => ∃ k : Nat, k ≤ 8 ∧ i = .int .i64 k ∧ RowKit.Hid (DocMem w gw s (dealW s) (S k) wr)) (fun i _ => 8 - (intOf i).toNat)
        case atStart => exact ⟨0, by omega, rfl, MEM0⟩
        case round =>
          clear MEM0
          obtain ⟨k, hk, rfl, MEM⟩ := hrel
          by_cases hlt : k < 8
          · obtain ⟨wo, rfl⟩ : ∃ wo : World, wo = wr := ⟨_, rfl⟩
            have hkb : decide ((k : Int) < 8) = true := decide_eq_true (by omega)
            go_wp2_with fail
            go_loopw [13, 14] (fun b i wr => ∃ g m : Nat, g ≤ 8 ∧ i = .int .i64 g ∧ b = .int .i64 (pickB (S k).d (dealW s) g) ∧ wr = wo.drewN m) (fun _ i _ => 8 - (intOf i).toNat)
            case atStart => exact ⟨0, 0, by omega, rfl, rfl, rfl⟩
            case round =>
              obtain ⟨g, m, hg, rfl, rfl, rfl⟩ := hrel
              by_cases hlg : g < 8
              · have cd := (MEM.out.dealt.cell g).trans (CB8_get _ hlg)
                have cw := (MEM.out.bw.cell g).trans (C8_get _ hlg)
                have hst : pickB (S k).d (dealW s) (g + 1) = if (S k).d g = false ∧ (pickB (S k).d (dealW s) g < 0 ∨ dealW s (pickB (S k).d (dealW s) g).toNat < dealW s g) then (g : Int) else pickB (S k).d (dealW s) g := rfl
                have hsp := pickB_spec (S k).d (dealW s) g
                have hgi : (g : Int) < 8 := by omega
                generalize hpb : pickB (S k).d (dealW s) g = B at *
                have HST := Lib.hid hst
                have HSP := Lib.hid hsp
                clear hst hsp hpb
                cases hdg : (S k).d g
                case true =>
                  rw [hdg] at cd
                  rw [hdg] at HST
                  clear hdg cw
                  go_wp2_with fail
                  go_quiet (fail)
                  go_wp2_with fail
                  go_roundw
                  case rel => exact ⟨g + 1, m + nq, by omega, by go_num, by rw [HST.out]; simp, by first | rfl | rw [World.drewN_drewN]⟩
                  case measure => simp [intOf]; omega
                case false =>
                  rw [hdg] at cd
                  rw [hdg] at HST
                  clear hdg
                  rcases HSP.out with ⟨hB, _⟩ | ⟨b, hb, hB, _, _⟩
                  · subst hB
                    go_wp2_with fail
                    go_quiet (fail)
                    go_wp2_with fail
                    go_roundw
                    case rel =>
                      exact ⟨g + 1, m + nq, by omega, by go_num, by rw [HST.out]; rfl, by first | rfl | rw [World.drewN_drewN]⟩
                    case measure => simp [intOf]; omega
                  · subst hB
                    have cb := (MEM.out.bw.cell b).trans (C8_get _ (show b < 8 by omega))
                    have hbi : (b : Int) < 8 := by omega
                    rw [Int.toNat_natCast] at HST
                    generalize dealW s b = vb at *
                    generalize dealW s g = vg at *
                    have hnb : decide ((b : Int) < 0) = false := decide_eq_false (by omega)
                    by_cases hcmp : vb < vg
                    · have hd : decide (vb < vg) = true := decide_eq_true hcmp
                      go_wp2_with fail
                      go_quiet (fail)
                      go_wp2_with fail
                      go_roundw
                      case rel =>
                        exact ⟨g + 1, m + nq, by omega, by go_num, by rw [HST.out, if_pos ⟨trivial, .inr hcmp⟩], by first | rfl | rw [World.drewN_drewN]⟩
                      case measure => simp [intOf]; omega
                    · have hd : decide (vb < vg) = false := decide_eq_false hcmp
                      go_wp2_with fail
                      go_quiet (fail)
                      go_wp2_with fail
                      go_roundw
                      case rel =>
                        exact ⟨g + 1, m + nq, by omega, by go_num, by rw [HST.out, if_neg (by omega)], by first | rfl | rw [World.drewN_drewN]⟩
                      case measure => simp [intOf]; omega
              · obtain rfl : g = 8 := by omega
                rw [show ((8 : Nat) : Int) = (8 : Int) from rfl]
                have hNX := HNX.out k
                obtain ⟨b, hb, hB, hdb⟩ := (HI.out k hk).pick hlt (dealW s)
                rw [hB] at hNX ⊢
                rw [Int.toNat_natCast] at hNX
                have HNXT := Lib.hid hNX
                have MEM' : RowKit.Hid (DocMem w gw s (dealW s) (S k) (wo.drewN m)) := ⟨MEM.out.bs, MEM.out.bw, MEM.out.want, MEM.out.dealt, MEM.out.has, MEM.out.bel.drewN m⟩
                have h4 := Lib.hid (HI.out k hk).h4
                clear hNX hB hdb MEM
                generalize wo.drewN m = wn at *
                go_wp2_with fail
                go_loopw [15, 16] (fun l t wr => ∃ (T m : Nat), 1 ≤ T ∧ T ≤ p ∧ t = .int .i64 T ∧ l = .int .i64 (leastP (S k).h T : Nat) ∧ wr = wn.drewN m) (fun _ t _ => p - (intOf t).toNat)
                case atStart => exact ⟨1, 0, by omega, by omega, rfl, by simp [leastP], rfl⟩
                case round =>
                  obtain ⟨T, m, hT1, hT, rfl, rfl, rfl⟩ := hrel
                  by_cases hTp : T < p
                  · have hlp : leastP (S k).h T < 3 := by have := leastP_lt (S k).h T hT1; omega
                    have hLS : leastP (S k).h (T + 1) = if (S k).h T < (S k).h (leastP (S k).h T) then T else leastP (S k).h T := rfl
                    have c1 := (MEM'.out.has.cell T).trans (C3_get _ (by omega))
                    have c2 := (MEM'.out.has.cell (leastP (S k).h T)).trans (C3_get _ hlp)
                    generalize leastP (S k).h T = L at *
                    have HLS := Lib.hid hLS
                    have hTi : (T : Int) < 3 := by omega
                    have hLi : (L : Int) < 3 := by omega
                    clear hLS
                    by_cases hcmp : (S k).h T < (S k).h L
                    · have hd : decide ((S k).h T < (S k).h L) = true := decide_eq_true hcmp
                      go_wp2_with fail
                      go_quiet (fail)
                      go_wp2_with fail
                      go_roundw
                      case rel => exact ⟨T + 1, m + nq, by omega, by omega, by go_num, by rw [HLS.out, if_pos hcmp], by first | rfl | rw [World.drewN_drewN]⟩
                      case measure => simp [intOf]; omega
                    · have hd : decide ((S k).h T < (S k).h L) = false := decide_eq_false hcmp
                      go_wp2_with fail
                      go_quiet (fail)
                      go_wp2_with fail
                      go_roundw
                      case rel => exact ⟨T + 1, m + nq, by omega, by omega, by go_num, by rw [HLS.out, if_neg (by omega)], by first | rfl | rw [World.drewN_drewN]⟩
                      case measure => simp [intOf]; omega
                  · obtain rfl : p = T := by omega
                    have hlp := leastP_lt (S k).h p (by omega)
                    have hN := HNXT.out
                    unfold dealStep at hN
                    have wl := h4.out (leastP (S k).h p)
                    have wq := dealW_range s b
                    generalize leastP (S k).h p = L at *
                    have M : RowKit.Hid (DocMem w gw s (dealW s) (S k) (wn.drewN m)) := ⟨MEM'.out.bs, MEM'.out.bw, MEM'.out.want, MEM'.out.dealt, MEM'.out.has, MEM'.out.bel.drewN m⟩
                    clear MEM' HNXT
                    generalize wn.drewN m = wx at *
                    have cw := (M.out.want.cell b).trans (C8_get _ hb)
                    have cd := (M.out.dealt.cell b).trans (CB8_get _ hb)
                    have zw := M.out.want.frozen b
                    have zd := M.out.dealt.frozen b
                    have hbi : (b : Int) < 8 := by omega
                    have hLi : (L : Int) < 3 := by omega
                    go_upto_region 30 with fail
                    obtain ⟨wy, hwy⟩ : ∃ wy, wy = (wx.setCell ⟨gw + 1, b, none⟩ (.int .i64 (L : Nat))).setCell ⟨gw + 2, b, none⟩ (.bool true) := ⟨_, rfl⟩
                    have hcb8 := (M.out.dealt.far (p := ⟨gw + 1, b, none⟩) (by show gw + 2 ≠ gw + 1; omega) (.int .i64 (L : Nat))).set_ b (.bool true)
                    rw [CB8_set _ hb true] at hcb8
                    have M1 : RowKit.Hid (DocMem w gw s (dealW s) ⟨upd (S k).r b (L : Nat), upd (S k).d b true, (S k).h⟩ wy) := by
                      rw [hwy]
                      exact ⟨(M.out.bs.far (p := ⟨gw + 1, b, none⟩) (by show w.heap.size ≠ gw + 1; omega) _).far (p := ⟨gw + 2, b, none⟩) (by show w.heap.size ≠ gw + 2; omega) _, (M.out.bw.far (p := ⟨gw + 1, b, none⟩) (by show gw ≠ gw + 1; omega) _).far (p := ⟨gw + 2, b, none⟩) (by show gw ≠ gw + 2; omega) _,
                        (blk_set1 M.out.want hb (L : Nat)).far (p := ⟨gw + 2, b, none⟩) (by show gw + 1 ≠ gw + 2; omega) _, hcb8,
                        (M.out.has.far (p := ⟨gw + 1, b, none⟩) (by show gw + 3 ≠ gw + 1; omega) _).far (p := ⟨gw + 2, b, none⟩) (by show gw + 3 ≠ gw + 2; omega) _, (M.out.bel.setCell (p := ⟨gw + 1, b, none⟩) (by show w.heap.size ≤ gw + 1; omega) _).setCell (p := ⟨gw + 2, b, none⟩) (by show w.heap.size ≤ gw + 2; omega) _⟩
                    clear hcb8
                    rw [← hwy]
                    obtain ⟨a, ha⟩ : ∃ a, a = (S k).h L := ⟨_, rfl⟩
                    obtain ⟨c, hc⟩ : ∃ c, c = dealW s b := ⟨_, rfl⟩
                    have c1 := (M1.out.has.cell L).trans (C3_get _ (by omega))
                    have c2 := (M1.out.bw.cell b).trans (C8_get _ hb)
                    have z3 := M1.out.has.frozen L
                    simp only at c1
                    rw [← ha] at c1 wl hN
                    rw [← hc] at c2 wq hN
                    have hw1 : IntKind.i64.wrap (a + c) = a + c := by rw [IntKind.wrap_i64]; omega
                    have HN := Lib.hid hN
                    clear hwy ha hc hN cw cd zw zd wl wq M
                    refine wp_region_still_tail 8 (by kernel_rfl) (by kernel_rfl) ?_
                    simp only [List.take_succ_cons, List.take_zero, List.drop_succ_cons, List.drop_zero]
                    repeat still_step
                    refine wpStill_nil ?_
                    change wpList _ _ _ _ _ wy.drew
                    go_wp2_with fail
                    go_roundw
                    case rel =>
                      refine ⟨k + 1, by omega, by go_num, ?_⟩
                      rw [HN.out]
                      exact ⟨(M1.out.bs.far (p := ⟨gw + 3, L, none⟩) (by show w.heap.size ≠ gw + 3; omega) _).drew, (M1.out.bw.far (p := ⟨gw + 3, L, none⟩) (by show gw ≠ gw + 3; omega) _).drew, (M1.out.want.far (p := ⟨gw + 3, L, none⟩) (by show gw + 1 ≠ gw + 3; omega) _).drew, (M1.out.dealt.far (p := ⟨gw + 3, L, none⟩) (by show gw + 2 ≠ gw + 3; omega) _).drew,
                        (blk3_set1 M1.out.has (by omega) (a + c)).drew, (M1.out.bel.setCell (p := ⟨gw + 3, L, none⟩) (by show w.heap.size ≤ gw + 3; omega) _).drew⟩
                    case measure => simp [intOf]; omega
          · obtain rfl : k = 8 := by omega
            obtain ⟨R, hR⟩ : ∃ R, R = (S 8).r := ⟨_, rfl⟩
            obtain ⟨H, hH⟩ : ∃ H, H = (S 8).h := ⟨_, rfl⟩
            have HB := Lib.hid (fun w => (by rw [hR, HS.out]; exact balance_doc par p s w HP.out (by omega) : Calls Try.prog 30 #[.int .i64 par, A8 s] w fun e w' => e = .returned (A8 R) ∧ Fr w.heap.size [] w w'))
            have HL := Lib.hid (fun w => (by have h := loads_any R s w; rw [show loadOf (dealW s) R 8 = H by rw [hR, hH, HS.out]; exact loads_of_doc p s (by omega)] at h; exact h : Calls Try.prog 31 #[A8 R, A8 s] w fun e w' => e = .returned (A3 H) ∧ Fr w.heap.size [] w w'))
            have INV0 : RowKit.Hid (EndInv w gw s R H wr) := by rw [hR, hH]; exact ⟨MEM.out.bs, MEM.out.want, MEM.out.has, MEM.out.bel⟩
            have q8 := a8_eql R
            have q3 := a3_eql H
            clear hR hH MEM
            go_wp2_with fail
            have INV := EndInv.step INV0 ((Fr.refl _ _ _).drew)
            clear INV0
            go_region_held3 (fun wx => wx.cell? ⟨w.heap.size, 0, none⟩ = some (.int .i64 (s 0)) ∧ wx.cell? ⟨w.heap.size, 1, none⟩ = some (.int .i64 (s 1)) ∧ wx.cell? ⟨w.heap.size, 2, none⟩ = some (.int .i64 (s 2)) ∧ wx.cell? ⟨w.heap.size, 3, none⟩ = some (.int .i64 (s 3)) ∧ wx.cell? ⟨w.heap.size, 4, none⟩ = some (.int .i64 (s 4)) ∧ wx.cell? ⟨w.heap.size, 5, none⟩ = some (.int .i64 (s 5)) ∧ wx.cell? ⟨w.heap.size, 6, none⟩ = some (.int .i64 (s 6)) ∧ wx.cell? ⟨w.heap.size, 7, none⟩ = some (.int .i64 (s 7)) ∧ wx.cell? ⟨gw + 1, 0, none⟩ = some (.int .i64 (R 0)) ∧ wx.cell? ⟨gw + 1, 1, none⟩ = some (.int .i64 (R 1)) ∧ wx.cell? ⟨gw + 1, 2, none⟩ = some (.int .i64 (R 2)) ∧ wx.cell? ⟨gw + 1, 3, none⟩ = some (.int .i64 (R 3)) ∧ wx.cell? ⟨gw + 1, 4, none⟩ = some (.int .i64 (R 4)) ∧ wx.cell? ⟨gw + 1, 5, none⟩ = some (.int .i64 (R 5)) ∧ wx.cell? ⟨gw + 1, 6, none⟩ = some (.int .i64 (R 6)) ∧ wx.cell? ⟨gw + 1, 7, none⟩ = some (.int .i64 (R 7)) ∧ wx.cell? ⟨gw + 3, 0, none⟩ = some (.int .i64 (H 0)) ∧ wx.cell? ⟨gw + 3, 1, none⟩ = some (.int .i64 (H 1)) ∧ wx.cell? ⟨gw + 3, 2, none⟩ = some (.int .i64 (H 2))) (exact EndInv.cells INV.out)
              (first
                | (go_at_call 30; refine (HB.out _).mono ?_; rintro e w' ⟨rfl, hf⟩; have INV := EndInv.step INV hf; clear hf)
                | (go_at_call 31; refine (HL.out _).mono ?_; rintro e w' ⟨rfl, hf⟩; have INV := EndInv.step INV hf; clear hf))
            all_goals
              go_wp2_with fail
              go_ret
              exact ⟨rfl, INV.out.2.2.2⟩
end Go.Proofs.Ytkgllkoooohikaa
