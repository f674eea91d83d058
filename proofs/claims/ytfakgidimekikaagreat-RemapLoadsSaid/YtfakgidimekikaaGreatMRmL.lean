/- Texts merged into one, for the number of files a claim may have: RmL, RmS. -/
import Derived.Test.YtfakgidimekikaaGreatMRm
import Derived.Test.YtfakgidimekikaaGreatMLst
import Derived.Test.YtfakgidimekikaaGreatMPts
import Derived.Test.YtfakgidimekikaaGreatMA
import Derived.Deep.DeepCutAuto
import Derived.Deep.RegionHeld3
namespace Go.Proofs.YtfakgidimekikaaGreat
open Go.RowKit Go.Fb
set_option linter.unusedVariables false
/-- As many entries as each of a node's tasks has. -/
def loadN (l : List (Nat → Int)) (x : Nd) : List Int := (List.range x.par.toNat).map fun t => ((partC x.id x.rt t l).length : Int)
def LoadsOut (L : List Nd) (l : List (Nat → Int)) (w : World) (e : Ending) (w' : World) : Prop :=
  ∃ A c n X, e = .returned (.slice A n c) ∧ Lsts w.heap.size w' (.slice A n c) n X ∧ fstL X = (normL L).map (loadN l) ∧ Fr w.heap.size [] w w'
theorem PInv.base {w0 w1 w : World} {gr par : Nat} {F : Nat → List (Nat → Int)} {R : Nat → Value} (h : PInv w1 gr par F R w) (hf : Fr w0.heap.size [] w0 w1) : PInv w0 gr par F R w :=
  ⟨h.blk, Nat.le_trans hf.size h.low, fun t ht => ownsRow_base (h.own t ht) hf.size, h.off, h.dis, hf.trans (h.fr.mono hf.size (by simp))⟩
theorem range_at {f : Nat → Int} {n j : Nat} (h : j < n) : (((List.range n).map f).take (j + 1)) = (((List.range n).map f).take j) ++ [f j] := by
  rw [List.take_add_one, List.getElem?_map, List.getElem?_range h]; rfl
set_option maxRecDepth 100000 in
set_option maxHeartbeats 8000000 in
theorem loads_any (gt gm : Nat) (T : Pk → CV) (hok : TOk T) (A : Option Addr) (c B n : Nat) (M : List Ndm) (w : World) (hct : CT w gt gm T) (h : Nds w B A n M) (hB : B ≤ w.heap.size) (hs : Small M) (hr : RightG (fstN M)) (hlen : (allT T).length ≤ 100) :
    Calls Tryz.prog 36 #[.slice A n c, .pointer (some ⟨gt, 0, none⟩)] w (LoadsOut (fstN M) (allT T) w) := by
  have HNM := Lib.hid (norm_any A c B n M w h hB hs (by have := hr.len; simp [fstN] at this; rw [h.num]; omega))
  obtain ⟨L, hL⟩ : ∃ L, L = fstN M := ⟨_, rfl⟩
  obtain ⟨l, hl⟩ : ∃ l, l = allT T := ⟨_, rfl⟩
  have HCA := Lib.hid (fun (W : World) (hc : CT W gt gm T) => (by rw [hl]; exact call_any gt gm T hok W hc : Calls Tryz.prog 28 #[.pointer (some ⟨gt, 0, none⟩)] W (EntsOut l W)))
  rw [← hL] at HNM hr
  rw [← hl] at hlen
  rw [← hL, ← hl]
  have HRG := Lib.hid hr
  have HLE := Lib.hid hlen
  have HC := Lib.hid hct
  clear hL hl hr hlen hct h hs hok
  go_enter Tryz.func36, Tryz.ntmps36
  go_wp2_with fail
  refine HNM.out.mono ?_
  rintro e w1 ⟨An, cn, nn, MN, hnn, rfl, hown, hnmi, hfst, f1⟩
  have HMN := Lib.hid (Nmd.mk hnn hown hnmi)
  have HF := Lib.hid hfst
  have F1 := Lib.hid f1
  have HC1 := Lib.hid (HC.out.keep f1)
  have hnm : nn = MN.length := hnn
  have HNN := Lib.hid hnm
  have hnn8 : nn ≤ 8 := by
    have h1 := congrArg List.length hfst
    rw [normL_len] at h1
    simp only [fstN, List.length_map] at h1
    rw [hnm, h1]
    exact HRG.out.len
  clear hnn hown hnmi hfst f1 HNM HC hnm
  go_wp2_with fail
  go_loopg [5, 7, 8, 10, 14] nn (fun g s5 s7 s8 s10 s14 wr => ∃ (k : Nat) (A' : Option Addr) (c' : Nat) (X : List Lm), k ≤ nn ∧ g = nn - k ∧ s5 = .slice A' k c' ∧ s14 = .int .i64 k ∧ (s7 = undef ∨ ∃ a, s7 = .pointer a) ∧ (s8 = undef ∨ ∃ A n c, s8 = .slice A n c) ∧ (s10 = undef ∨ ∃ A n c, s10 = .slice A n c) ∧ RowKit.Hid (Lsts w1.heap.size wr (.slice A' k c') k X) ∧ RowKit.Hid (fstL X = ((fstN MN).take k).map (loadN l)) ∧ RowKit.Hid (Fr w1.heap.size [] w1 wr))
  case atStart => exact ⟨0, none, 0, [], Nat.zero_le _, rfl, rfl, rfl, .inl rfl, .inl rfl, .inl rfl, Lib.hid (Lsts.nil _ _), Lib.hid rfl, Lib.hid (Fr.refl _ _ _)⟩
  case round =>
    obtain ⟨k, A', c', X, hk, rfl, rfl, rfl, h7, h8, h10, HX, HFX, F⟩ := hrel
    by_cases hkn : k < nn
    · have hki : (k : Int) < (nn : Int) := by omega
      have hk0 : (0 : Int) ≤ (k : Int) := by omega
      obtain ⟨m, hx⟩ : ∃ m, MN[k]? = some m := ⟨_, List.getElem?_eq_getElem (by rw [← HNN.out]; exact hkn)⟩
      have HSW := HMN.out.nds F.out (by simp)
      obtain ⟨b1, o1, rfl, hb1, hc1⟩ := HSW.get hx
      have hxm : m.1 ∈ L := by
        have h1 : m.1 ∈ fstN MN := List.mem_map.2 ⟨m, List.mem_of_getElem? hx, rfl⟩
        rw [HF.out] at h1
        exact (normL_perm L).mem_iff.1 h1
      have hr8 := (nodeB_iff.1 (HRG.out.each m.1 hxm)).2.2.2.1
      have HTX := Lib.hid (show ((fstN MN).take (k + 1)).map (loadN l) = ((fstN MN).take k).map (loadN l) ++ [loadN l m.1] by
        have : (fstN MN)[k]? = some m.1 := by simp [fstN, hx]
        rw [List.take_add_one, this, List.map_append]; rfl)
      have hin := HSW.inn m (List.mem_of_getElem? hx)
      obtain ⟨⟨id, kind, par, fr, pg, rt⟩, sf, sp⟩ := m
      simp only at hr8 HTX hin
      obtain ⟨⟨Af, cf, hf1, hf2⟩, ⟨Ap, cp, hp1, hp2⟩⟩ := hin
      simp only at hf1 hp1 hf2 hp2
      clear hf2 hp2
      obtain ⟨nf, hnf⟩ : ∃ z, z = fr.length := ⟨_, rfl⟩
      obtain ⟨np, hnp⟩ : ∃ z, z = pg.length := ⟨_, rfl⟩
      rw [← hnf] at hf1
      rw [← hnp] at hp1
      subst hf1
      subst hp1
      clear hnf hnp
      have hpar : 1 ≤ par ∧ par ≤ 3 := by
        have := (Bool.and_eq_true _ _).mp hr8
        exact of_decide_eq_true this.1
      obtain ⟨pn, rfl⟩ : ∃ pn : Nat, par = (pn : Int) := ⟨par.toNat, by omega⟩
      have HR8 := Lib.hid hr8
      have p0 := hc1 0 (.int .i64 id) rfl
      have p1 := hc1 1 (.int .i64 kind) rfl
      have p2 := hc1 2 (.slice Af nf cf) rfl
      have p3 := hc1 3 (.slice Ap np cp) rfl
      have p4 := hc1 4 (.int .i64 (pn : Int)) rfl
      have p5 := hc1 5 (.int .i64 (rt 0)) rfl
      have p6 := hc1 6 (.int .i64 (rt 1)) rfl
      have p7 := hc1 7 (.int .i64 (rt 2)) rfl
      have p8 := hc1 8 (.int .i64 (rt 3)) rfl
      have p9 := hc1 9 (.int .i64 (rt 4)) rfl
      have p10 := hc1 10 (.int .i64 (rt 5)) rfl
      have p11 := hc1 11 (.int .i64 (rt 6)) rfl
      have p12 := hc1 12 (.int .i64 (rt 7)) rfl
      simp only [Nat.add_zero] at p0
      clear hc1 hx HSW hr8 hxm hb1
      have BX := Lib.hid (Blk.new wr 50 (ndA ⟨id, kind, pn, fr, pg, rt⟩ (.slice Af nf cf) (.slice Ap np cp)))
      have fa := (Fr.refl wr.heap.size [] wr).alloc (Nat.le_refl _) (.cells (ndA ⟨id, kind, pn, fr, pg, rt⟩ (.slice Af nf cf) (.slice Ap np cp)) 50)
      have HXA := Lib.hid (HX.out.mv fa)
      have FA := Lib.hid (F.out.trans (fa.mono (B' := w1.heap.size) (L' := []) F.out.size (by simp)))
      clear fa HX F
      go_upto_region 6 with fail
      clear p0 p1 p2 p3 p4 p5 p6 p7 p8 p9 p10 p11 p12
      generalize wr.alloc (.cells _ 50) = wa at *
      generalize wr.heap.size = gx at *
      have HCA1 := Lib.hid (HC1.out.fr FA.out HC1.out.bk.lt (by simp) HC1.out.mp.lt (by simp))
      go_cut [21, 22, 23] (fun s21 s22 s23 wx => ∃ gr R, s21 = .slice (some ⟨gr, 0, none⟩) pn pn ∧ s22 = .int .i64 (pn : Int) ∧ s23 = .int .i64 0 ∧ RowKit.Hid (PInv wa gr pn (fun t => partC id rt t l) R wx))
      case first =>
        have INV := Lib.hid ((Fr.refl wa.heap.size [] wa).drew)
        have INC := Lib.hid (show CT wa.drew gt gm T from ⟨HCA1.out.bk.drew, HCA1.out.mp.fr (Fr.refl wa.heap.size [] wa).drew HCA1.out.mp.lt (by simp)⟩)
        have SF := Lib.hid (fun (W : World) (hf : Fr wa.heap.size [] wa W) => (by
          have b := BX.out.fr hf BX.out.lt (by simp)
          exact ⟨b.cell 0, b.cell 1, b.cell 2, b.cell 3, b.cell 4, b.cell 5, b.cell 6, b.cell 7, b.cell 8, b.cell 9, b.cell 10, b.cell 11, b.cell 12⟩ : W.cell? ⟨gx, 0, none⟩ = some (.int .i64 id) ∧ W.cell? ⟨gx, 1, none⟩ = some (.int .i64 kind) ∧ W.cell? ⟨gx, 2, none⟩ = some (.slice Af nf cf) ∧ W.cell? ⟨gx, 3, none⟩ = some (.slice Ap np cp) ∧ W.cell? ⟨gx, 4, none⟩ = some (.int .i64 (pn : Int)) ∧ W.cell? ⟨gx, 5, none⟩ = some (.int .i64 (rt 0)) ∧ W.cell? ⟨gx, 6, none⟩ = some (.int .i64 (rt 1)) ∧ W.cell? ⟨gx, 7, none⟩ = some (.int .i64 (rt 2)) ∧ W.cell? ⟨gx, 8, none⟩ = some (.int .i64 (rt 3)) ∧ W.cell? ⟨gx, 9, none⟩ = some (.int .i64 (rt 4)) ∧ W.cell? ⟨gx, 10, none⟩ = some (.int .i64 (rt 5)) ∧ W.cell? ⟨gx, 11, none⟩ = some (.int .i64 (rt 6)) ∧ W.cell? ⟨gx, 12, none⟩ = some (.int .i64 (rt 7))))
        go_region_held3 (fun W => W.cell? ⟨gx, 0, none⟩ = some (.int .i64 id) ∧ W.cell? ⟨gx, 1, none⟩ = some (.int .i64 kind) ∧ W.cell? ⟨gx, 2, none⟩ = some (.slice Af nf cf) ∧ W.cell? ⟨gx, 3, none⟩ = some (.slice Ap np cp) ∧ W.cell? ⟨gx, 4, none⟩ = some (.int .i64 (pn : Int)) ∧ W.cell? ⟨gx, 5, none⟩ = some (.int .i64 (rt 0)) ∧ W.cell? ⟨gx, 6, none⟩ = some (.int .i64 (rt 1)) ∧ W.cell? ⟨gx, 7, none⟩ = some (.int .i64 (rt 2)) ∧ W.cell? ⟨gx, 8, none⟩ = some (.int .i64 (rt 3)) ∧ W.cell? ⟨gx, 9, none⟩ = some (.int .i64 (rt 4)) ∧ W.cell? ⟨gx, 10, none⟩ = some (.int .i64 (rt 5)) ∧ W.cell? ⟨gx, 11, none⟩ = some (.int .i64 (rt 6)) ∧ W.cell? ⟨gx, 12, none⟩ = some (.int .i64 (rt 7))) (exact SF.out _ INV.out)
          ((first | (go_at_call 28; refine (HCA.out _ INC.out).mono ?_; rintro e wv ⟨Av, cv, rfl, hrv, _, _, fv⟩; have INV := Lib.hid (INV.out.trans (fv.mono (B' := _) (L' := []) INV.out.size (by simp))); have INC := Lib.hid (INC.out.keep fv); have HRV := Lib.hid hrv; clear fv hrv) | (go_at_call 69; refine (parts_yes id pn (.int .i64 kind) (.slice Af nf cf) (.slice Ap np cp) rt l _ _ _ HR8.out HLE.out HRV.out).mono ?_; rintro e wd ⟨gr, R, rfl, hp⟩; have HPI := Lib.hid (hp.base INV.out); have INV := Lib.hid (INV.out.trans (hp.fr.mono (B' := _) (L' := []) INV.out.size (by simp))); clear hp)))
        all_goals
          go_wp2_with fail
          go_meet
          exact ⟨_, _, rfl, rfl, rfl, HPI⟩
      case rest =>
        obtain ⟨gr, R, rfl, rfl, rfl, HPI⟩ := hcut
        have FC := Lib.hid (FA.out.trans (HPI.out.fr.mono (B' := w1.heap.size) (L' := []) FA.out.size (by simp)))
        have HXC := Lib.hid (HXA.out.mv HPI.out.fr)
        obtain ⟨Y, hY⟩ : ∃ Y, Y = loadN l ⟨id, kind, pn, fr, pg, rt⟩ := ⟨_, rfl⟩
        have HYF := Lib.hid (show Y = (List.range pn).map fun t => ((partC id rt t l).length : Int) by rw [hY]; unfold loadN; simp)
        rw [← hY] at HTX
        have HYL := Lib.hid (show Y.length = pn by rw [HYF.out]; simp)
        clear hY HXA HCA1 BX
        go_wp2_with fail
        go_loopg [8, 10, 23] pn (fun g s8 s10 s23 wi => ∃ (j : Nat) (A3 : Option Addr) (c3 : Nat), j ≤ pn ∧ g = pn - j ∧ s8 = .slice A3 j c3 ∧ s23 = .int .i64 j ∧ (s10 = undef ∨ ∃ A n c, s10 = .slice A n c) ∧ RowKit.Hid (wi.ownsRow wc.heap.size 3 1 (.slice A3 j c3) j ((Y.take j).map (Value.int .i64))) ∧ RowKit.Hid (Fr wc.heap.size [] wc wi))
        case atStart => exact ⟨0, none, 0, Nat.zero_le _, rfl, rfl, rfl, h10, Lib.hid (World.ownsRow_nil _ _ _ _), Lib.hid (Fr.refl _ _ _)⟩
        case round =>
          obtain ⟨j, A3, c3, hj, rfl, rfl, rfl, h10, HO, FI⟩ := hrel
          by_cases hjn : j < pn
          · have hji : (j : Int) < (pn : Int) := by omega
            have hj0 : (0 : Int) ≤ (j : Int) := by omega
            obtain ⟨Aj, cj, hRj, _⟩ := ownsRow_shape (HPI.out.own j hjn)
            have pj := (FI.out.cell (p := ⟨gr, j, none⟩) HPI.out.blk.lt (by simp)).trans (HPI.out.blk.cell j)
            rw [rowsA_get R hjn, hRj] at pj
            have HYJ := Lib.hid (show (Y.take (j + 1)).map (Value.int .i64) = (Y.take j).map (Value.int .i64) ++ [.int .i64 ((partC id rt j l).length : Int)] by rw [HYF.out, range_at hjn, List.map_append]; rfl)
            have hsz : wc.heap.size ≤ wr.heap.size := FI.out.size
            clear hRj
            go_wp2_with (at_builtin; refine wpList_app_lit wr rfl (.tmp 27) (.tmp 30) intsTy rfl wc.heap.size (.slice A3 j c3) j ((Y.take j).map (Value.int .i64)) rfl HO.out 1 1 #[.int .i64 ((partC id rt j l).length : Int)] rfl rfl (by simp [Value.oneCell']) (by omega) (by omega) hsz ?_; intro A4 c4 w7 hown7 hg7 hat7)
            have F7 := Lib.hid ((FI.out.alloc hsz _).grown hg7 (by simp; omega) (fun q hq => .inl (HO.out.lt q hq).1))
            have HO7 := Lib.hid (show w7.ownsRow wc.heap.size 3 1 (.slice A4 (j + 1) c4) (j + 1) ((Y.take (j + 1)).map (Value.int .i64)) by rw [HYJ.out]; exact hown7)
            clear hg7 hat7 hown7
            go_roundg (pn - (j + 1))
            case measure => omega
            case rel => exact ⟨j + 1, A4, c4, by omega, rfl, rfl, by go_num, .inr ⟨_, _, _, rfl⟩, HO7, F7⟩
          · obtain rfl : pn = j := by omega
            have hYt : Y.take pn = Y := List.take_of_length_le (by rw [HYL.out]; exact Nat.le_refl _)
            rw [hYt] at HO
            have HXI := Lib.hid (HXC.out.mv FI.out)
            have FI2 := Lib.hid (FC.out.trans (FI.out.mono (B' := w1.heap.size) (L' := []) FC.out.size (by simp)))
            have hszI : w1.heap.size ≤ wr.heap.size := FI2.out.size
            have hszC : w1.heap.size ≤ wc.heap.size := FC.out.size
            have hcap : pn ≤ c3 := by obtain ⟨_, _, hx, _, hy, _⟩ := ownsRow_shape HO.out; injection hx with _ _ hx; omega
            clear hYt
            go_wp2_with (at_builtin; refine wpList_app_lit wr rfl (.tmp 33) (.tmp 35) lstTy rfl w1.heap.size (.slice A' k c') k (X.map (·.2)) rfl HXI.out.own 1 1 #[.slice A3 pn c3] rfl rfl (by simp [Value.oneCell']) (by omega) (by omega) hszI ?_; intro A4 c4 w7 hown7 hg7 hat7)
            have fb := (Fr.refl wr.heap.size [] wr).alloc (Nat.le_refl _) (.cells #[.slice A3 pn c3] 46)
            have F7 := Lib.hid ((FI2.out.alloc hszI _).grown hg7 (by simp; omega) (fun q hq => .inl (HXI.out.own.lt q hq).1))
            have HX7 := Lib.hid ((HXI.out.mv fb).app (Y := [(Y, .slice A3 pn c3)]) ⟨rfl, own_new hszI, fun z hz => by
              rw [List.mem_singleton] at hz
              subst hz
              exact ⟨⟨A3, c3, by rw [HYL.out], by rw [HYL.out]; exact hcap⟩, by
                have := ownsRow_base (ownsRow_fr HO.out fb (fun q hq => ⟨(HO.out.lt q hq).2, by simp⟩)) hszC
                rw [HYL.out]
                exact this⟩⟩ hown7 hg7)
            have HFX7 := Lib.hid (show fstL (X ++ [(Y, Value.slice A3 pn c3)]) = ((fstN MN).take (k + 1)).map (loadN l) by rw [HTX.out, ← HFX.out]; unfold fstL; rw [List.map_append]; rfl)
            clear hg7 hat7 hown7 fb
            go_roundg (nn - (k + 1))
            case measure => omega
            case rel => exact ⟨k + 1, A4, c4, _, by omega, rfl, rfl, by go_num, .inr ⟨_, rfl⟩, .inr ⟨_, _, _, rfl⟩, h10, HX7, HFX7, F7⟩
    · obtain rfl : nn = k := by omega
      have hTt : (fstN MN).take nn = normL L := by rw [List.take_of_length_le (by rw [HNN.out]; simp [fstN]), HF.out]
      rw [hTt] at HFX
      clear hTt
      go_wp2_with fail
      go_ret
      have hs1 := F1.out.size
      exact ⟨A', c', _, X, rfl, HX.out.low hs1, HFX.out, F1.out.trans (F.out.mono hs1 (by simp))⟩
end Go.Proofs.YtfakgidimekikaaGreat
namespace Go.Proofs.YtfakgidimekikaaGreat
open Go.RowKit Go.Fb
set_option linter.unusedVariables false
theorem inTo_at' {p : Int} {r : Nat → Int} {n : Nat} (h : inTo p r n = true) {k : Nat} (hk : k < n) : 0 ≤ r k ∧ r k < p := by
  unfold inTo at h
  exact of_decide_eq_true (List.all_eq_true.1 h k (List.mem_range.2 hk))
theorem sum_add {f g : Nat → Int} : ∀ (l : List Nat), (l.map fun t => f t + g t).sum = (l.map f).sum + (l.map g).sum
  | [] => rfl
  | x :: l => by
    simp only [List.map_cons, List.sum_cons]
    rw [sum_add l]
    omega
theorem ind_sum (par : Nat) (hp : 1 ≤ par ∧ par ≤ 3) (v : Int) (h0 : 0 ≤ v) (h1 : v < par) (b : Bool) : ((List.range par).map fun t : Nat => (if (b && v == (t : Int)) = true then (1 : Int) else 0)).sum = if b = true then 1 else 0 := by
  cases b with
  | false =>
    have : ∀ l : List Nat, (l.map fun t : Nat => (if (false && v == (t : Int)) = true then (1 : Int) else 0)).sum = 0 := by
      intro l
      induction l with
      | nil => rfl
      | cons a l ih =>
        simp only [List.map_cons, List.sum_cons]
        rw [ih]
        simp
    rw [this]
    simp
  | true =>
    have hp3 : par = 1 ∨ par = 2 ∨ par = 3 := by omega
    have hv3 : v = 0 ∨ v = 1 ∨ v = 2 := by omega
    rcases hp3 with rfl | rfl | rfl <;> rcases hv3 with rfl | rfl | rfl <;> first | decide | (exfalso; omega)
theorem load_sum (x : Nd) (h : right8 x.par x.rt = true) : ∀ l : List (Nat → Int), (loadN l x).sum = ((l.filter fun e => decide (e 0 = x.id)).length : Int)
  | [] => by
    have hz : ∀ k : List Nat, (k.map fun _ : Nat => (0 : Int)).sum = 0 := by
      intro k
      induction k with
      | nil => rfl
      | cons a k ih => rw [List.map_cons, List.sum_cons, ih]; rfl
    exact hz _
  | e :: l => by
    have ih := load_sum x h l
    obtain ⟨a1, a2⟩ := (Bool.and_eq_true _ _).mp h
    have hp := of_decide_eq_true a1
    have hr := inTo_at' a2 (k := (e 1 % 8).toNat) (by omega)
    have hi := ind_sum x.par.toNat (by omega) (x.rt (e 1 % 8).toNat) hr.1 (by omega) (e 0 == x.id)
    have hs : (loadN (e :: l) x).sum = ((List.range x.par.toNat).map fun t : Nat => (if ((e 0 == x.id) && x.rt (e 1 % 8).toNat == (t : Int)) = true then (1 : Int) else 0)).sum + (loadN l x).sum := by
      unfold loadN
      rw [← sum_add]
      congr 1
      refine List.map_congr_left fun t _ => ?_
      unfold partC
      rw [List.filter_cons]
      by_cases c : inPart x.id x.rt t e = true
      · rw [if_pos c]
        have c2 : ((e 0 == x.id) && x.rt (e 1 % 8).toNat == (t : Int)) = true := c
        rw [if_pos c2, List.length_cons]
        omega
      · rw [if_neg c]
        have c2 : ¬ ((e 0 == x.id) && x.rt (e 1 % 8).toNat == (t : Int)) = true := c
        rw [if_neg c2]
        omega
    rw [hs, hi, ih, List.filter_cons]
    by_cases c : e 0 = x.id
    · rw [if_pos (by simpa using c), if_pos (by simpa using c), List.length_cons]
      omega
    · rw [if_neg (by simpa using c), if_neg (by simpa using c)]
      omega
theorem idsN_upd {N : List Nd} {id : Int} {f : Nd → Nd} (hf : ∀ n, (f n).id = n.id) : idsN (updN N id f) = idsN N := by
  unfold idsN updN
  rw [List.map_map]
  refine List.map_congr_left fun n _ => ?_
  simp only [Function.comp]
  split
  · exact hf n
  · rfl
theorem chg_ids {N : List Nd} {s : Stp} (h4 : s.kind = 4) (h : (chgN N s).1 = 0) : idsN (chgN N s).2 = idsN N := by
  unfold chgN at h ⊢
  cases hq : findN N s.nd.id with
  | none =>
    rw [hq] at h
    simp only at h
    rw [if_neg (by omega)] at h
    cases h
  | some n =>
    rw [hq] at h
    simp only at h ⊢
    rw [if_neg (by omega), if_neg (by omega), if_neg (by omega), if_pos h4] at h ⊢
    by_cases c : n.kind = 0
    · rw [if_pos c] at h; cases h
    · rw [if_neg c]
      exact idsN_upd (f := rtN s.nd.par s.nd.rt) fun _ => rfl
theorem step_ids {L : List Nd} {s : Stp} (h4 : s.kind = 4) (h : (stepN L s).1 = 0) : (idsN (stepN L s).2).Perm (idsN L) := by
  unfold stepN at h ⊢
  by_cases hc : checkN L ≠ 0
  · rw [if_pos hc] at h; cases h
  rw [if_neg hc] at h ⊢
  rw [if_neg (by omega)] at h ⊢
  obtain ⟨h1, h2, h3⟩ := end_ok h
  rw [h3]
  simp only
  refine (ids_perm (normL_perm _)).trans ?_
  rw [chg_ids h4 h1]
  exact ids_perm (normL_perm _)
theorem go_ids : ∀ (P : List Stp) (i : Nat) (L : List Nd), (∀ s ∈ P, s.kind = 4) → (goN i L P).1 = 0 → (idsN (goN i L P).2.2).Perm (idsN L)
  | [], _, _, _, _ => List.Perm.refl _
  | s :: P, i, L, h4, h => by
    unfold goN at h ⊢
    by_cases c : (stepN L s).1 ≠ 0
    · rw [if_pos c] at h; exact absurd h c
    · rw [if_neg c] at h ⊢
      exact (go_ids P (i + 1) _ (fun t ht => h4 t (List.mem_cons_of_mem _ ht)) h).trans (step_ids (h4 s (by simp)) (Decidable.not_not.1 c))
theorem apply_ids {L : List Nd} {P : List Stp} (h4 : ∀ s ∈ P, s.kind = 4) (h : (applyN L P).1 = 0) : (idsN (applyN L P).2.2).Perm (idsN L) := by
  unfold applyN at h ⊢
  by_cases hc : checkN L ≠ 0
  · rw [if_pos hc] at h; cases h
  rw [if_neg hc] at h ⊢
  by_cases hk : P.length < 1 ∨ 6 < P.length
  · rw [if_pos hk] at h; cases h
  rw [if_neg hk] at h ⊢
  exact go_ids P 0 L h4 h
theorem norm_rise {L : List Nd} (h : RightG L) : (idsN (normL L)).Pairwise (fun a b => a < b) := by
  have h1 := normL_sorted L
  have h2 : (idsN (normL L)).Nodup := (ids_perm (normL_perm L)).nodup_iff.2 h.uni
  unfold idsN at h2 ⊢
  rw [List.pairwise_map]
  rw [List.nodup_iff_pairwise_ne, List.pairwise_map] at h2
  exact (h1.and h2).imp fun ⟨a, b⟩ => by omega
theorem ids_norm_eq {L R : List Nd} (hL : RightG L) (hR : RightG R) (hp : (idsN R).Perm (idsN L)) : idsN (normL R) = idsN (normL L) := by
  refine rises_uniq (fun x : Int => x) (norm_rise hR) (norm_rise hL) fun x => ?_
  rw [(ids_perm (normL_perm R)).mem_iff, (ids_perm (normL_perm L)).mem_iff]
  exact hp.mem_iff
theorem loads_same {L R : List Nd} (hL : RightG L) (hR : RightG R) (hp : (idsN R).Perm (idsN L)) (q : List (Nat → Int)) {i : Nat} {x y : List Int} (hx : ((normL L).map (loadN q))[i]? = some x) (hy : ((normL R).map (loadN q))[i]? = some y) : x.sum = y.sum := by
  rw [List.getElem?_map, Option.map_eq_some_iff] at hx hy
  obtain ⟨a, ha, rfl⟩ := hx
  obtain ⟨b, hb, rfl⟩ := hy
  have e1 : (idsN (normL L))[i]? = some a.id := by unfold idsN; rw [List.getElem?_map, ha]; rfl
  have e2 : (idsN (normL R))[i]? = some b.id := by unfold idsN; rw [List.getElem?_map, hb]; rfl
  rw [ids_norm_eq hL hR hp, e1] at e2
  injection e2 with e2
  have ra := (nodeB_iff.1 (hL.each a ((normL_perm L).mem_iff.1 (List.mem_of_getElem? ha)))).2.2.2.1
  have rb := (nodeB_iff.1 (hR.each b ((normL_perm R).mem_iff.1 (List.mem_of_getElem? hb)))).2.2.2.1
  rw [load_sum a ra, load_sum b rb, e2]
theorem loads_len {L R : List Nd} (hp : (idsN R).Perm (idsN L)) (q : List (Nat → Int)) : ((normL R).map (loadN q)).length = ((normL L).map (loadN q)).length := by
  have := hp.length_eq
  unfold idsN at this
  rw [List.length_map, List.length_map] at this
  rw [List.length_map, List.length_map, normL_len, normL_len, this]
theorem load_small {L : List Nd} (hL : RightG L) {q : List (Nat → Int)} (hq : q.length ≤ 100) {x : List Int} (hx : x ∈ (normL L).map (loadN q)) : x.length ≤ 3 ∧ ∀ v ∈ x, 0 ≤ v ∧ v ≤ 100 := by
  obtain ⟨a, ha, rfl⟩ := List.mem_map.1 hx
  have ra := (nodeB_iff.1 (hL.each a ((normL_perm L).mem_iff.1 ha))).2.2.2.1
  obtain ⟨a1, a2⟩ := (Bool.and_eq_true _ _).mp ra
  have hp := of_decide_eq_true a1
  unfold loadN
  refine ⟨by rw [List.length_map, List.length_range]; omega, fun v hv => ?_⟩
  obtain ⟨t, _, rfl⟩ := List.mem_map.1 hv
  have := partC_le a.id a.rt t q
  omega
theorem sum_take {x : List Int} {j : Nat} {v : Int} (h : x[j]? = some v) : (x.take (j + 1)).sum = (x.take j).sum + v := by
  rw [List.take_add_one, h, List.sum_append]
  simp
theorem sum_small {x : List Int} (h : ∀ v ∈ x, 0 ≤ v ∧ v ≤ 100) : ∀ j : Nat, 0 ≤ (x.take j).sum ∧ (x.take j).sum ≤ 100 * j
  | 0 => by simp
  | j + 1 => by
    have ih := sum_small h j
    rw [List.take_add_one, List.sum_append]
    cases hj : x[j]? with
    | none => simp; omega
    | some v =>
      have := h v (List.mem_of_getElem? hj)
      simp
      omega
end Go.Proofs.YtfakgidimekikaaGreat
