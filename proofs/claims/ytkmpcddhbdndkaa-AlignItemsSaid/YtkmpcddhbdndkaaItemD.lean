/- The contract of align.Get. -/
import Derived.Test.YtkmpcddhbdndkaaItemB
import Derived.Test.YtkmpcddhbdndkaaItemC
namespace Go.Proofs.Ytkmpcddhbdndkaa
open Go.RowKit Go.Fb
/-- What is left of a text behind its first byte and so many numbers. -/
def leftS (s : ByteArray) : Nat → ByteArray
  | 0 => s.extract 1 s.size
  | k + 1 => (rnumOf (leftS s k)).2.2
def numK (s : ByteArray) (k : Nat) : Int := (rnumOf (leftS s k)).1
theorem leftS_size (s : ByteArray) : ∀ k, (leftS s k).size ≤ s.size
  | 0 => by simp [leftS, ByteArray.size_extract]
  | k + 1 => by
    have ih := leftS_size s k
    unfold leftS rnumOf
    split
    · exact ih
    · simp [ByteArray.size_extract]; omega
theorem toList_ne {t s : ByteArray} (h : ¬ t = s) : (t.toList == s.toList) = false := by
  rw [beq_eq_false_iff_ne]
  intro e
  rw [ByteArray.toList_eq, ByteArray.toList_eq] at e
  exact h (ByteArray.ext (Array.toList_inj.1 e))
structure Itm where
  b : Bool
  k : Int
  re : Int
  im : Int
  ep : Int
  p : Bool
def Itm.zero : Itm := ⟨false, 0, 0, 0, 0, false⟩
abbrev Itm.cs (i : Itm) : Array Value := It i.b i.k i.re i.im i.ep i.p
def Itm.put (i : Itm) : Option (List Int) := putI i.b i.k i.re i.im i.ep i.p
/-- Does a text begin as a barrier? -/
def isB (s : ByteArray) : Bool := (s.extract 0 1).toList == [66]
def candI (s : ByteArray) : Itm := if isB s then ⟨true, 0, 0, 0, numK s 0, numK s 1 == 1⟩ else ⟨false, numK s 0, numK s 1, numK s 2, 0, false⟩
/-- Is the text the one of what it seems to be? -/
def goodI (s : ByteArray) : Bool := (candI s).put.isSome && decide (putS (candI s).put = s)
def getI (s : ByteArray) : Itm := if goodI s then candI s else Itm.zero
/-- The three numbers, so many of which have been read. -/
def C3 (f : Nat → Int) (k : Nat) : Array Value := #[.int .i64 (if 0 < k then f 0 else 0), .int .i64 (if 1 < k then f 1 else 0), .int .i64 (if 2 < k then f 2 else 0)]
theorem C3_set (f : Nat → Int) : ∀ k, k < 3 → (C3 f k).setIfInBounds k (.int .i64 (f k)) = C3 f (k + 1)
  | 0, _ => rfl
  | 1, _ => rfl
  | 2, _ => rfl
  | k + 3, h => by omega
theorem C3_get (f : Nat → Int) : ∀ k, k < 3 → (C3 f k)[k]? = some (.int .i64 0)
  | 0, _ => rfl
  | 1, _ => rfl
  | 2, _ => rfl
  | k + 3, h => by omega
set_option maxRecDepth 100000 in
set_option maxHeartbeats 1000000 in
theorem aget_any (s : ByteArray) (w : World) (hm : s.size ≤ 1000) : Calls Try.prog 42 #[.string s] w fun e w' => e = .returned (.tuple #[.agg (getI s).cs, .int .i64 (if goodI s then 0 else 4)]) ∧ Fr w.heap.size [] w w' := by
  by_cases h0 : s.size = 0
  · have hg : goodI s = false := by
      unfold goodI
      cases hp : (candI s).put with
      | none => rfl
      | some l =>
        have hne : putS (some l) ≠ s := by
          intro e
          have hz : (putS (some l)).size = 0 := by rw [e, h0]
          have hl : l ≠ [] := by
            unfold Itm.put putI at hp
            split at hp <;> split at hp <;> simp at hp <;> rw [← hp] <;> simp
          simp only [putS, strOfNums_size] at hz
          exact hl (List.eq_nil_of_length_eq_zero hz)
        simp [hne]
    have hv : getI s = Itm.zero := by unfold getI; rw [hg]; rfl
    rw [hv, hg]
    have he : s.toList.isEmpty = true := by rw [isEmpty_of_size]; simp [h0]
    clear hg hv h0
    go_enter Try.func42, Try.ntmps42
    go_wp2_with fail
    exact bodyPost_ret (results_row_tmp rfl _ _ w.heap.size 70 It0 (0, 0) _ rfl (Blk.new w 70 It0) Try.underlying70 rfl (by kernel_rfl)) rfl ⟨rfl, (Fr.refl _ _ w).alloc (Nat.le_refl _) _⟩
  have he : s.toList.isEmpty = false := by rw [isEmpty_of_size]; simp [h0]
  obtain ⟨code, hcode⟩ : ∃ code : Int, code = if goodI s then 0 else 4 := ⟨_, rfl⟩
  have HCODE := Lib.hid hcode
  rw [← hcode]
  obtain ⟨res, hres⟩ : ∃ res, res = getI s := ⟨_, rfl⟩
  have HRES := Lib.hid hres
  rw [← hres]
  have h1s : 1 ≤ s.size := by omega
  have HL := Lib.hid (leftS_size s)
  clear hcode hres h0
  go_enter Try.func42, Try.ntmps42
  go_wp2_with fail
  have b0 := Blk.new w 70 It0
  have f0 := (Fr.refl w.heap.size [] w).alloc (Nat.le_refl _) (.cells It0 70)
  generalize w.alloc _ = w1 at *
  refine (new_any _ _).mono ?_
  rintro e w2 ⟨rfl, hw2⟩
  have hr2 : Rd w2 w1.heap.size (leftS s 0) := by rw [hw2]; exact Blk.new _ _ _
  have f2 : Fr w1.heap.size [] w1 w2 := by rw [hw2]; exact (Fr.refl _ _ _).alloc (Nat.le_refl _) _
  have B2 := Lib.hid (b0.fr f2 b0.lt (by simp))
  have F2 := Lib.hid (f0.trans (f2.mono f0.size (by simp)))
  have hgr : w.heap.size < w1.heap.size := b0.lt
  have R2 := Lib.hid hr2
  clear hw2 hr2 f2 b0 f0
  generalize w1.heap.size = gr at *
  go_wp2_with fail
  have hba := Blk.new w2 96 (C3 (numK s) 0)
  have hfa := (Fr.refl w2.heap.size [] w2).alloc (Nat.le_refl _) (.cells (C3 (numK s) 0) 96)
  have hg2 : gr < w2.heap.size := R2.out.lt
  have INV0 : RowKit.Hid (Rd (w2.alloc (.cells (C3 (numK s) 0) 96)) gr (leftS s 0) ∧ Blk (w2.alloc (.cells (C3 (numK s) 0) 96)) w2.heap.size 96 (C3 (numK s) 0) ∧ Blk (w2.alloc (.cells (C3 (numK s) 0) 96)) w.heap.size 70 It0 ∧ Fr w.heap.size [] w (w2.alloc (.cells (C3 (numK s) 0) 96))) :=
    ⟨R2.out.fr hfa hg2 (by simp), hba, B2.out.fr hfa B2.out.lt (by simp), F2.out.trans (hfa.mono F2.out.size (by simp))⟩
  clear hba hfa B2 F2 R2
  generalize w2.heap.size = ga at *
  go_loopw [16] (fun i wr => ∃ k : Nat, k ≤ 3 ∧ i = .int .i64 k ∧ RowKit.Hid (Rd wr gr (leftS s k) ∧ Blk wr ga 96 (C3 (numK s) k) ∧ Blk wr w.heap.size 70 It0 ∧ Fr w.heap.size [] w wr)) (fun i _ => 3 - (intOf i).toNat)
  case atStart => exact ⟨0, by omega, rfl, INV0⟩
  case round =>
    obtain ⟨k, hk, rfl, INV⟩ := hrel
    by_cases hk3 : k < 3
    · have hki : (k : Int) < 3 := by omega
      have hN := rnum_any gr (leftS s k) wr INV.out.1 (by have := HL.out k; unfold maxLen; omega)
      have HN := Lib.hid hN
      clear hN
      go_wp2_with fail
      refine HN.out.mono ?_
      rintro e w3 ⟨rfl, hr3, f3⟩
      have hlt := INV.out.2.1.lt
      have hltw := INV.out.2.2.1.lt
      have INV3 : RowKit.Hid (Rd w3 gr (leftS s (k + 1)) ∧ Blk w3 ga 96 (C3 (numK s) k) ∧ Blk w3 w.heap.size 70 It0 ∧ Fr w.heap.size [] w w3) :=
        ⟨hr3, INV.out.2.1.fr f3 hlt (by simp; omega), INV.out.2.2.1.fr f3 hltw (by simp; omega), INV.out.2.2.2.trans (f3.mono (B' := w.heap.size) (L' := []) (by omega) (fun q hq hl => by simp at hq; omega))⟩
      have hc := INV3.out.2.1.cell k
      rw [C3_get _ _ hk3] at hc
      have hz := INV3.out.2.1.frozen k
      have hv : (rnumOf (leftS s k)).1 = numK s k := rfl
      rw [hv]
      clear hr3 f3 HN hv
      generalize hnk : numK s k = nk at *
      have HNK := Lib.hid hnk
      clear hnk
      generalize (rnumOf (leftS s k)).2.1 = ec at *
      go_wp2_with fail
      go_roundw
      case rel =>
        have hb := INV3.out.2.1.set_ k (.int .i64 nk)
        rw [← HNK.out, C3_set _ _ hk3, HNK.out] at hb
        exact ⟨k + 1, by omega, by go_num, INV3.out.1.far (by simp; omega) _, hb, INV3.out.2.2.1.far (by simp; omega) _, INV3.out.2.2.2.setCell (.inl (by simp; omega)) _⟩
      case measure => simp [intOf]; omega
    · obtain rfl : k = 3 := by omega
      go_upto_region 11 with fail
      have hB : ((s.extract 0 1).toList == [66]) = isB s := rfl
      rw [hB]
      have hcand : candI s = if isB s then ⟨true, 0, 0, 0, numK s 0, numK s 1 == 1⟩ else ⟨false, numK s 0, numK s 1, numK s 2, 0, false⟩ := rfl
      obtain ⟨hrd, hbk, hb0, hfr⟩ := INV.out
      have hbk' : Blk wr ga 96 #[.int .i64 (numK s 0), .int .i64 (numK s 1), .int .i64 (numK s 2)] := hbk
      generalize numK s 0 = n0 at *
      generalize numK s 1 = n1 at *
      generalize numK s 2 = n2 at *
      have hgx : w.heap.size < wr.heap.size := by have := hb0.lt; omega
      have hga : ga < wr.heap.size := hbk'.lt
      rcases Bool.eq_false_or_eq_true (isB s) with hb | hb
      · rw [hb] at hcand ⊢
        simp only [if_true] at hcand
        have HCAND := Lib.hid hcand
        have hfa := (Fr.refl wr.heap.size [] wr).alloc (Nat.le_refl _) (.cells (It true 0 0 0 0 false) 70)
        have BX := Lib.hid (Blk.new wr 70 (It true 0 0 0 0 false))
        have BA := Lib.hid (hbk'.fr hfa hga (by simp))
        have B0 := Lib.hid (hb0.fr hfa hgx (by simp))
        have FA := Lib.hid (hfr.trans (hfa.mono hfr.size (by simp)))
        clear hcand hB hrd hbk hb0 hfr hbk' hfa INV
        generalize wr.alloc _ = wa at *
        generalize wr.heap.size = gx at *
        have a0 := BA.out.cell 0
        have a1 := BA.out.cell 1
        have a2 := BA.out.cell 2
        have x0 := BX.out.cell 0
        have x2 := BX.out.cell 4
        have x3 := BX.out.cell 5
        have z2 := BX.out.frozen 4
        have z3 := BX.out.frozen 5
        simp at a0 a1 a2 x0 x2 x3
        go_wp2_with fail
        go_region
        all_goals
          have BQ : RowKit.Hid (Blk (((wa.setCell ⟨gx, 4, none⟩ (.int .i64 n0)).setCell ⟨gx, 5, none⟩ (.bool (n1 == 1))).drew) gx 70 (It true 0 0 0 n0 (n1 == 1))) := by
            show Blk _ _ _ _
            have h := ((BX.out.set_ 4 (.int .i64 n0)).set_ 5 (.bool (n1 == 1))).drew
            simpa using h
          have B0Q : RowKit.Hid (Blk (((wa.setCell ⟨gx, 4, none⟩ (.int .i64 n0)).setCell ⟨gx, 5, none⟩ (.bool (n1 == 1))).drew) w.heap.size 70 It0) := ((B0.out.far (by simp; omega) _).far (by simp; omega) _).drew
          have FQ : RowKit.Hid (Fr w.heap.size [] w (((wa.setCell ⟨gx, 4, none⟩ (.int .i64 n0)).setCell ⟨gx, 5, none⟩ (.bool (n1 == 1))).drew)) := ((FA.out.setCell (.inl (by simp; omega)) _).setCell (.inl (by simp; omega)) _).drew
          generalize ((wa.setCell ⟨gx, 4, none⟩ (.int .i64 n0)).setCell ⟨gx, 5, none⟩ (.bool (n1 == 1))).drew = wq at *
          clear BX BA B0 FA a0 a1 a2 x0 x2 x3 z2 z3
          have y0 := BQ.out.cell 0
          have y1 := BQ.out.cell 1
          have y2 := BQ.out.cell 2
          have y3 := BQ.out.cell 3
          have y4 := BQ.out.cell 4
          have y5 := BQ.out.cell 5
          simp at y0 y1 y2 y3 y4 y5
          go_wp2_with fail
          clear y0 y1 y2 y3 y4 y5
          refine (aput_any true 0 0 0 n0 (n1 == 1) _).mono ?_
          rintro e w5 ⟨rfl, f5⟩
          have hput : (candI s).put = putI true 0 0 0 n0 (n1 == 1) := by rw [HCAND.out]; rfl
          have hgood : goodI s = ((putI true 0 0 0 n0 (n1 == 1)).isSome && decide (putS (putI true 0 0 0 n0 (n1 == 1)) = s)) := by unfold goodI; rw [hput]
          generalize putI true 0 0 0 n0 (n1 == 1) = o at *
          have BQ5 := Lib.hid (BQ.out.fr f5 BQ.out.lt (by simp))
          have B05 := Lib.hid (B0Q.out.fr f5 B0Q.out.lt (by simp))
          have FQ5 := Lib.hid (FQ.out.trans (f5.mono FQ.out.size (by simp)))
          have y0 := BQ5.out.cell 0
          have y1 := BQ5.out.cell 1
          have y2 := BQ5.out.cell 2
          have y3 := BQ5.out.cell 3
          have y4 := BQ5.out.cell 4
          have y5 := BQ5.out.cell 5
          have q0 := B05.out.cell 0
          have q1 := B05.out.cell 1
          have q2 := B05.out.cell 2
          have q3 := B05.out.cell 3
          have q4 := B05.out.cell 4
          have q5 := B05.out.cell 5
          have r0 := B05.out.frozen 0
          have r1 := B05.out.frozen 1
          have r2 := B05.out.frozen 2
          have r3 := B05.out.frozen 3
          have r4 := B05.out.frozen 4
          have r5 := B05.out.frozen 5
          simp at y0 y1 y2 y3 y4 y5 q0 q1 q2 q3 q4 q5
          clear f5 hput
          rcases o with _ | l
          · have hgf : goodI s = false := by rw [hgood]; rfl
            have hgr' : res = Itm.zero := by rw [HRES.out]; unfold getI; rw [hgf]; rfl
            have hgc : code = 4 := by rw [HCODE.out, hgf]; rfl
            subst hgr' hgc
            clear hgood
            go_wp2_with fail
            exact bodyPost_ret (results_row_tmp rfl _ _ w.heap.size 70 It0 (0, 0) _ rfl (blk_set6 B05.out _ _ _ _ _ _) Try.underlying70 rfl (by kernel_rfl)) rfl ⟨rfl, fr_set6 FQ5.out (.inl (Nat.le_refl _)) _ _ _ _ _ _⟩
          · by_cases hps : putS (some l) = s
            · have hgf : goodI s = true := by rw [hgood]; simp [hps]
              have hgr' : res = candI s := by rw [HRES.out]; unfold getI; rw [hgf]; rfl
              have hgc : code = 0 := by rw [HCODE.out, hgf]; rfl
              rw [HCAND.out] at hgr'
              subst hgr' hgc
              clear hgood
              rw [hps]
              go_wp2_with fail
              exact bodyPost_ret (results_row_tmp rfl _ _ w.heap.size 70 (It true 0 0 0 n0 (n1 == 1)) (0, 0) _ rfl (blk_set6 B05.out _ _ _ _ _ _) Try.underlying70 rfl (by kernel_rfl)) rfl ⟨rfl, fr_set6 FQ5.out (.inl (Nat.le_refl _)) _ _ _ _ _ _⟩
            · have hgf : goodI s = false := by rw [hgood]; simp [hps]
              have hgr' : res = Itm.zero := by rw [HRES.out]; unfold getI; rw [hgf]; rfl
              have hgc : code = 4 := by rw [HCODE.out, hgf]; rfl
              subst hgr' hgc
              clear hgood
              generalize putS (some l) = t at *
              have htl := toList_ne hps
              go_wp2_with fail
              exact bodyPost_ret (results_row_tmp rfl _ _ w.heap.size 70 It0 (0, 0) _ rfl (blk_set6 B05.out _ _ _ _ _ _) Try.underlying70 rfl (by kernel_rfl)) rfl ⟨rfl, fr_set6 FQ5.out (.inl (Nat.le_refl _)) _ _ _ _ _ _⟩
      · rw [hb] at hcand ⊢
        simp only [Bool.false_eq_true, if_false] at hcand
        have HCAND := Lib.hid hcand
        have hfa := (Fr.refl wr.heap.size [] wr).alloc (Nat.le_refl _) (.cells (It false 0 0 0 0 false) 70)
        have BX := Lib.hid (Blk.new wr 70 (It false 0 0 0 0 false))
        have BA := Lib.hid (hbk'.fr hfa hga (by simp))
        have B0 := Lib.hid (hb0.fr hfa hgx (by simp))
        have FA := Lib.hid (hfr.trans (hfa.mono hfr.size (by simp)))
        clear hcand hB hrd hbk hb0 hfr hbk' hfa INV
        generalize wr.alloc _ = wa at *
        generalize wr.heap.size = gx at *
        have a0 := BA.out.cell 0
        have a1 := BA.out.cell 1
        have a2 := BA.out.cell 2
        have x0 := BX.out.cell 0
        have x1 := BX.out.cell 1
        have x2 := BX.out.cell 2
        have x3 := BX.out.cell 3
        have z1 := BX.out.frozen 1
        have z2 := BX.out.frozen 2
        have z3 := BX.out.frozen 3
        simp at a0 a1 a2 x0 x1 x2 x3
        go_upto_region 14 with fail
        have BQ : RowKit.Hid (Blk (((wa.setCell ⟨gx, 1, none⟩ (.int .i64 n0)).setCell ⟨gx, 2, none⟩ (.int .i64 n1)).setCell ⟨gx, 3, none⟩ (.int .i64 n2)) gx 70 (It false n0 n1 n2 0 false)) := by
          show Blk _ _ _ _
          have h := ((BX.out.set_ 1 (.int .i64 n0)).set_ 2 (.int .i64 n1)).set_ 3 (.int .i64 n2)
          simpa using h
        have B0Q : RowKit.Hid (Blk (((wa.setCell ⟨gx, 1, none⟩ (.int .i64 n0)).setCell ⟨gx, 2, none⟩ (.int .i64 n1)).setCell ⟨gx, 3, none⟩ (.int .i64 n2)) w.heap.size 70 It0) := ((B0.out.far (by simp; omega) _).far (by simp; omega) _).far (by simp; omega) _
        have FQ : RowKit.Hid (Fr w.heap.size [] w (((wa.setCell ⟨gx, 1, none⟩ (.int .i64 n0)).setCell ⟨gx, 2, none⟩ (.int .i64 n1)).setCell ⟨gx, 3, none⟩ (.int .i64 n2))) := ((FA.out.setCell (.inl (by simp; omega)) _).setCell (.inl (by simp; omega)) _).setCell (.inl (by simp; omega)) _
        generalize ((wa.setCell ⟨gx, 1, none⟩ (.int .i64 n0)).setCell ⟨gx, 2, none⟩ (.int .i64 n1)).setCell ⟨gx, 3, none⟩ (.int .i64 n2) = wq at *
        clear BX BA B0 FA a0 a1 a2 x0 x1 x2 x3 z1 z2 z3
        have y0 := BQ.out.cell 0
        have y1 := BQ.out.cell 1
        have y2 := BQ.out.cell 2
        have y3 := BQ.out.cell 3
        have y4 := BQ.out.cell 4
        have y5 := BQ.out.cell 5
        simp at y0 y1 y2 y3 y4 y5
        go_wp2_with fail
        clear y0 y1 y2 y3 y4 y5
        refine (aput_any false n0 n1 n2 0 false _).mono ?_
        rintro e w5 ⟨rfl, f5⟩
        have hput : (candI s).put = putI false n0 n1 n2 0 false := by rw [HCAND.out]; rfl
        have hgood : goodI s = ((putI false n0 n1 n2 0 false).isSome && decide (putS (putI false n0 n1 n2 0 false) = s)) := by unfold goodI; rw [hput]
        generalize putI false n0 n1 n2 0 false = o at *
        have BQ5 := Lib.hid (BQ.out.fr f5 BQ.out.lt (by simp))
        have B05 := Lib.hid (B0Q.out.fr f5 B0Q.out.lt (by simp))
        have FQ5 := Lib.hid (FQ.out.trans (f5.mono FQ.out.size (by simp)))
        have y0 := BQ5.out.cell 0
        have y1 := BQ5.out.cell 1
        have y2 := BQ5.out.cell 2
        have y3 := BQ5.out.cell 3
        have y4 := BQ5.out.cell 4
        have y5 := BQ5.out.cell 5
        have q0 := B05.out.cell 0
        have q1 := B05.out.cell 1
        have q2 := B05.out.cell 2
        have q3 := B05.out.cell 3
        have q4 := B05.out.cell 4
        have q5 := B05.out.cell 5
        have r0 := B05.out.frozen 0
        have r1 := B05.out.frozen 1
        have r2 := B05.out.frozen 2
        have r3 := B05.out.frozen 3
        have r4 := B05.out.frozen 4
        have r5 := B05.out.frozen 5
        simp at y0 y1 y2 y3 y4 y5 q0 q1 q2 q3 q4 q5
        clear f5 hput
        rcases o with _ | l
        · have hgf : goodI s = false := by rw [hgood]; rfl
          have hgr' : res = Itm.zero := by rw [HRES.out]; unfold getI; rw [hgf]; rfl
          have hgc : code = 4 := by rw [HCODE.out, hgf]; rfl
          subst hgr' hgc
          clear hgood
          go_wp2_with fail
          exact bodyPost_ret (results_row_tmp rfl _ _ w.heap.size 70 It0 (0, 0) _ rfl (blk_set6 B05.out _ _ _ _ _ _) Try.underlying70 rfl (by kernel_rfl)) rfl ⟨rfl, fr_set6 FQ5.out (.inl (Nat.le_refl _)) _ _ _ _ _ _⟩
        · by_cases hps : putS (some l) = s
          · have hgf : goodI s = true := by rw [hgood]; simp [hps]
            have hgr' : res = candI s := by rw [HRES.out]; unfold getI; rw [hgf]; rfl
            have hgc : code = 0 := by rw [HCODE.out, hgf]; rfl
            rw [HCAND.out] at hgr'
            subst hgr' hgc
            clear hgood
            rw [hps]
            go_wp2_with fail
            exact bodyPost_ret (results_row_tmp rfl _ _ w.heap.size 70 (It false n0 n1 n2 0 false) (0, 0) _ rfl (blk_set6 B05.out _ _ _ _ _ _) Try.underlying70 rfl (by kernel_rfl)) rfl ⟨rfl, fr_set6 FQ5.out (.inl (Nat.le_refl _)) _ _ _ _ _ _⟩
          · have hgf : goodI s = false := by rw [hgood]; simp [hps]
            have hgr' : res = Itm.zero := by rw [HRES.out]; unfold getI; rw [hgf]; rfl
            have hgc : code = 4 := by rw [HCODE.out, hgf]; rfl
            subst hgr' hgc
            clear hgood
            generalize putS (some l) = t at *
            have htl := toList_ne hps
            go_wp2_with fail
            exact bodyPost_ret (results_row_tmp rfl _ _ w.heap.size 70 It0 (0, 0) _ rfl (blk_set6 B05.out _ _ _ _ _ _) Try.underlying70 rfl (by kernel_rfl)) rfl ⟨rfl, fr_set6 FQ5.out (.inl (Nat.le_refl _)) _ _ _ _ _ _⟩
end Go.Proofs.Ytkmpcddhbdndkaa
