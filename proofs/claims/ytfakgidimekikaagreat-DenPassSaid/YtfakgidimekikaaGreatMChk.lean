/- Texts merged into one, for the number of files a claim may have: Check, ChkUse. -/
import Derived.Test.YtfakgidimekikaaGreatMStep
import Derived.Test.YtfakgidimekikaaGreatMA
import Derived.Deep.RegionWith
namespace Go.Proofs.YtfakgidimekikaaGreat
open Go.RowKit Go.Fb
def pF (l : List (Int × Int)) (k : Nat) : Int × Int := l.getD k (0, 0)
/-- What is known of a program, if it may run. -/
def chkL (l : List (Int × Int)) : Option CS := if fitsB l = true then checkF l.length (pF l) l.length else none
/-- What Check leaves. -/
def ChkOut (l : List (Int × Int)) (w : World) (e : Ending) (w' : World) : Prop :=
  (∀ s, chkL l = some s → ∃ gd, e = .returned (.tuple #[.agg #[.slice (some ⟨gd, 0, none⟩) l.length l.length, .int .i64 s.mx, .int .i64 s.em, .bool s.u0, .bool s.u1], .int .i64 0]) ∧ w.heap.size ≤ gd ∧ Blk w' gd 3 (intsA l.length s.D)) ∧
  (chkL l = none → e = .returned (.tuple #[.agg #[.slice none 0 0, .int .i64 0, .int .i64 0, .bool false, .bool false], .int .i64 9])) ∧ Fr w.heap.size [] w w'
theorem checkF_none {n : Nat} {p : Nat → Int × Int} {k : Nat} (h : checkF n p k = none) : ∀ d, checkF n p (k + d) = none
  | 0 => h
  | d + 1 => by
    show checkF n p (k + d + 1) = none
    unfold checkF
    rw [checkF_none h d]
/-- The cells of a report. -/
abbrev repC (v : Value) (a b : Int) (x y : Bool) : Array Value := #[v, .int .i64 a, .int .i64 b, .bool x, .bool y]
def set5 (w : World) (g : Nat) (v : Value) (a b : Int) (x y : Bool) : World :=
  ((((w.setCell ⟨g, 0, none⟩ v).setCell ⟨g, 1, none⟩ (.int .i64 a)).setCell ⟨g, 2, none⟩ (.int .i64 b)).setCell ⟨g, 3, none⟩ (.bool x)).setCell ⟨g, 4, none⟩ (.bool y)
theorem blk_set5 {w : World} {g t : Nat} {v0 : Value} {a0 b0 : Int} {x0 y0 : Bool} (h : Blk w g t (repC v0 a0 b0 x0 y0)) (v : Value) (a b : Int) (x y : Bool) : Blk (set5 w g v a b x y) g t (repC v a b x y) :=
  ((((h.set_ 0 v).set_ 1 (.int .i64 a)).set_ 2 (.int .i64 b)).set_ 3 (.bool x)).set_ 4 (.bool y)
theorem fr_set5 {B g : Nat} {L : List Nat} {a0 w : World} (h : Fr B L a0 w) (hg : B ≤ g ∨ g ∈ L) (v : Value) (a b : Int) (x y : Bool) : Fr B L a0 (set5 w g v a b x y) :=
  ((((h.setCell (p := ⟨g, 0, none⟩) hg _).setCell (p := ⟨g, 1, none⟩) hg _).setCell (p := ⟨g, 2, none⟩) hg _).setCell (p := ⟨g, 3, none⟩) hg _).setCell (p := ⟨g, 4, none⟩) hg _
def freshS : CS := ⟨fun _ => -1, fun _ => 0, 0, 0, false, false⟩
theorem come_start (n : Nat) : comeF n freshS 0 0 0 = some (startF n) := by
  unfold comeF
  rw [if_neg (by omega)]
  by_cases h : 0 = n
  · rw [if_pos h]
    subst h
    simp [freshS, startF]
  · rw [if_neg h, if_neg (by simp [freshS])]
    have h' : ¬ n = 0 := fun e => h e.symm
    simp only [freshS, startF]
    congr 2
    · funext j; simp [h', updC]
    · funext j; simp [updC]
theorem heap3 (w : World) (a b c : Obj) : (((w.alloc a).alloc b).alloc c).drew.heap[w.heap.size]? = some a ∧ (((w.alloc a).alloc b).alloc c).drew.heap[w.heap.size + 1]? = some b ∧ (((w.alloc a).alloc b).alloc c).drew.heap[w.heap.size + 2]? = some c ∧ Fr w.heap.size [] w (((w.alloc a).alloc b).alloc c).drew := by
  have e1 : (w.alloc a).heap.size = w.heap.size + 1 := by simp
  have e2 : ((w.alloc a).alloc b).heap.size = w.heap.size + 2 := by simp
  refine ⟨?_, ?_, ?_, (((((Fr.refl _ _ _).alloc (Nat.le_refl _) _).alloc (by simp) _).alloc (by simp; omega) _).drew)⟩
  · show (((w.alloc a).alloc b).alloc c).heap[w.heap.size]? = some a
    rw [Below.heap_alloc _ _ _ (by rw [e2]; omega), Below.heap_alloc _ _ _ (by rw [e1]; omega)]
    exact heap_alloc_new w a
  · show (((w.alloc a).alloc b).alloc c).heap[w.heap.size + 1]? = some b
    rw [Below.heap_alloc _ _ _ (by rw [e2]; omega), ← e1]
    exact heap_alloc_new (w.alloc a) b
  · show (((w.alloc a).alloc b).alloc c).heap[w.heap.size + 2]? = some c
    rw [← e2]
    exact heap_alloc_new ((w.alloc a).alloc b) c
theorem rightB_of {l : List (Int × Int)} (h : fitsB l = true) {k : Nat} {i : Int × Int} (hx : l[k]? = some i) : rightB i = true := by
  unfold fitsB at h
  rw [Bool.and_eq_true, List.all_eq_true] at h
  exact h.2 i (List.mem_of_getElem? hx)
theorem pF_of {l : List (Int × Int)} {k : Nat} {i : Int × Int} (hx : l[k]? = some i) : pF l k = i := by
  unfold pF
  rw [List.getD_eq_getElem?_getD, hx]
  rfl
set_option maxRecDepth 100000 in
set_option maxHeartbeats 2000000 in
theorem check_any (A : Option Addr) (c B : Nat) (l : List (Int × Int)) (w : World) (hr : Reads w B 2 A l.length (cellsI l)) (hB : B ≤ w.heap.size) (hn : l.length ≤ maxLen) :
    Calls Tryz.prog 159 #[.slice A l.length c] w (ChkOut l w) := by
  have FT := Lib.hid (fun (w' : World) (hw : Fr w.heap.size [] w w') => fits_any A c B l w' (hr.fr hw hB (by simp)) (Nat.le_trans hB hw.size) hn)
  have hm := hn
  unfold maxLen at hm
  have HR := Lib.hid hr
  have FF := Lib.hid (fun (h : fitsB l = true) => (by unfold fitsB at h; rw [Bool.and_eq_true] at h; exact of_decide_eq_true h.1 : l.length ≤ 24))
  have CL := Lib.hid (show chkL l = if fitsB l = true then checkF l.length (pF l) l.length else none from rfl)
  clear hr hn
  have hfb := (by cases fitsB l; exact .inr rfl; exact .inl rfl : fitsB l = true ∨ fitsB l = false)
  have f0 := (Fr.refl w.heap.size [] w).alloc (Nat.le_refl _) (.cells (repC (.slice none 0 0) 0 0 false false) 221)
  have b0 := Blk.new w 221 (repC (.slice none 0 0) 0 0 false false)
  have hft := FT.out _ f0
  rcases hfb with hfb | hfb
  case inr =>
    rw [hfb] at hft
    have HCL : RowKit.Hid (chkL l = none) := by rw [CL.out, hfb]; exact (rfl : (none : Option CS) = none)
    have HFT := Lib.hid hft
    clear hft hfb f0 b0
    go_enter Tryz.func159, Tryz.ntmps159
    go_wp2_with fail
    refine HFT.out.mono ?_
    rintro e w1 ⟨rfl, f1⟩
    have B1 := Lib.hid ((Blk.new w 221 (repC (.slice none 0 0) 0 0 false false)).fr f1 (by simp) (by simp))
    have F1 := Lib.hid (((Fr.refl w.heap.size [] w).alloc (Nat.le_refl _) (.cells (repC (.slice none 0 0) 0 0 false false) 221)).trans (f1.mono (B' := w.heap.size) (L' := []) (by simp) (by simp)))
    have c0 := B1.out.cell 0
    have c1 := B1.out.cell 1
    have c2 := B1.out.cell 2
    have c3 := B1.out.cell 3
    have c4 := B1.out.cell 4
    have z0 := B1.out.frozen 0
    have z1 := B1.out.frozen 1
    have z2 := B1.out.frozen 2
    have z3 := B1.out.frozen 3
    have z4 := B1.out.frozen 4
    simp at c0 c1 c2 c3 c4
    clear f1
    go_wp2_with fail
    refine bodyPost_ret (results_cell_row_tmp rfl _ _ w.heap.size 221 (repC (.slice none 0 0) 0 0 false false) (0, 0) _ rfl (blk_set5 B1.out _ _ _ _ _) Tryz.underlying221 rfl (by kernel_rfl)) rfl ⟨(fun s h => by rw [HCL.out] at h; cases h), (fun _ => rfl), fr_set5 F1.out (.inl (Nat.le_refl _)) _ _ _ _ _⟩
  case inl =>
    rw [hfb] at hft
    have hn24 := FF.out hfb
    have HCL : RowKit.Hid (chkL l = checkF l.length (pF l) l.length) := by rw [CL.out, if_pos hfb]; exact (rfl : checkF l.length (pF l) l.length = _)
    have HRB := Lib.hid (fun k i (hx : l[k]? = some i) => rightB_of hfb hx)
    have HFT := Lib.hid hft
    clear hft hfb f0 b0 FT FF CL
    go_enter Tryz.func159, Tryz.ntmps159
    go_wp2_with fail
    refine HFT.out.mono ?_
    rintro e w1 ⟨rfl, f1⟩
    have B1 := Lib.hid ((Blk.new w 221 (repC (.slice none 0 0) 0 0 false false)).fr f1 (by simp) (by simp))
    have F1 := Lib.hid (((Fr.refl w.heap.size [] w).alloc (Nat.le_refl _) (.cells (repC (.slice none 0 0) 0 0 false false) 221)).trans (f1.mono (B' := w.heap.size) (L' := []) (by simp) (by simp)))
    have hr0 : w.heap.size < w1.heap.size := B1.out.lt
    obtain ⟨n, hnl⟩ : ∃ n, n = l.length := ⟨_, rfl⟩
    have HN := Lib.hid hnl
    rw [← hnl] at hn24 ⊢
    have hmk := fun W => make_intsA n (by omega) W
    clear f1 HFT hnl hm
    go_upto_region 3 with fail
    go_cut [4] (fun s4 wx => ∃ gw ge gm, s4 = .pointer (some ⟨gw, 0, none⟩) ∧ RowKit.Hid (Blk wx gw 246 #[.slice none 0 0, .int .i64 0, .int .i64 0, .bool false, .bool false, .slice A n c, .slice (some ⟨ge, 0, none⟩) n n, .map (some gm)]) ∧ RowKit.Hid (Blk wx ge 3 (intsA n fun _ => 0)) ∧ RowKit.Hid (EffMap wx gm) ∧ RowKit.Hid (Fr w1.heap.size [] w1 wx) ∧ w1.heap.size ≤ gw ∧ w1.heap.size ≤ ge ∧ ge ≠ gw)
    case first =>
      go_region_with (first | (go_at_call 179; refine (effects_any _).mono ?_; rintro e w' ⟨rfl, rfl⟩))
      all_goals
        go_wp2_with fail
        go_meet
        first
          | exact ⟨_, w1.heap.size, w1.heap.size + 1, rfl, (heap3 w1 _ _ _).2.2.1, (heap3 w1 _ _ _).1, (heap3 w1 _ _ _).2.1, (heap3 w1 _ _ _).2.2.2, by omega, by omega, by omega⟩
          | exact ⟨_, w1.heap.size + 1, w1.heap.size, rfl, (heap3 w1 _ _ _).2.2.1, (heap3 w1 _ _ _).2.1, (heap3 w1 _ _ _).1, (heap3 w1 _ _ _).2.2.2, by omega, by omega, by omega⟩
    case rest =>
      obtain ⟨gw, ge, gm, rfl, BW, BE, EM, F2, hgw, hge, hne⟩ := hcut
      have hw0 : w.heap.size < gw := by omega
      have hcs : w1.heap.size ≤ wc.heap.size := F2.out.size
      have B2 := Lib.hid (B1.out.fr F2.out B1.out.lt (by simp))
      have FW := Lib.hid (F1.out.trans (F2.out.mono (B' := w.heap.size) (L' := []) (by omega) (by simp)))
      clear B1 F1 F2 hmk
      go_wp2_with fail
      have hrp := repeat_any (-1) n wc.heap.size hn24 (wc.alloc (.cells #[.int .i64 (-1)] 3)) (by simp) ((Blk.new wc 3 #[.int .i64 (-1)]).cell 0)
      have fa := (Fr.refl wc.heap.size [] wc).alloc (Nat.le_refl _) (.cells #[.int .i64 (-1)] 3)
      have hgd0 : (wc.alloc (.cells #[.int .i64 (-1)] 3)).heap.size = wc.heap.size + 1 := by simp
      refine hrp.mono ?_
      rintro e w3 ⟨rfl, bd, fd⟩
      have f3 := Lib.hid (fa.trans (fd.mono (B' := wc.heap.size) (L' := []) (by omega) (by simp)))
      generalize (wc.alloc (.cells #[.int .i64 (-1)] 3)).heap.size = gd at *
      have hgd1 : wc.heap.size < gd := by omega
      clear hgd0
      have hgwc := BW.out.lt
      have hgec := BE.out.lt
      have hgmc := EM.out.lt
      have BW3 := Lib.hid (BW.out.fr f3.out BW.out.lt (by simp))
      have BE3 := Lib.hid (BE.out.fr f3.out BE.out.lt (by simp))
      have EM3 := Lib.hid (EM.out.fr f3.out EM.out.lt (by simp))
      have B3 := Lib.hid (B2.out.fr f3.out B2.out.lt (by simp))
      have FW3 := Lib.hid (FW.out.trans (f3.out.mono (B' := w.heap.size) (L' := []) (by omega) (by simp)))
      have BD3 := Lib.hid bd
      have c0 := BW3.out.cell 0
      have z0 := BW3.out.frozen 0
      simp at c0
      clear BW BE EM B2 FW fa fd bd hrp f3
      go_upto_region 5 with fail
      have M4 : RowKit.Hid (WMem gw gd ge gm n A c freshS (w3.setCell ⟨gw, 0, none⟩ (.slice (some ⟨gd, 0, none⟩) n n))) :=
        ⟨BW3.out.set_ 0 _, BD3.out.far (p := ⟨gw, 0, none⟩) (by show gd ≠ gw; omega) _, BE3.out.far (p := ⟨gw, 0, none⟩) (by show ge ≠ gw; omega) _, EM3.out.far (p := ⟨gw, 0, none⟩) (EM3.out.ne BW3.out) _, by omega, hne, by omega⟩
      have B4 := Lib.hid (B3.out.far (p := ⟨gw, 0, none⟩) (by show w.heap.size ≠ gw; omega) (.slice (some ⟨gd, 0, none⟩) n n))
      have FW4 := Lib.hid (FW3.out.setCell (p := ⟨gw, 0, none⟩) (.inl (by show w.heap.size ≤ gw; omega)) (.slice (some ⟨gd, 0, none⟩) n n))
      have hgw3 := BW3.out.lt
      have hgd3 := BD3.out.lt
      have hge3 := BE3.out.lt
      have hs4 : (w3.setCell ⟨gw, 0, none⟩ (.slice (some ⟨gd, 0, none⟩) n n)).heap.size = w3.heap.size := by simp [World.setCell]
      generalize w3.setCell ⟨gw, 0, none⟩ (.slice (some ⟨gd, 0, none⟩) n n) = w4 at *
      clear BW3 BD3 BE3 EM3 B3 FW3 c0 z0 hgwc hgec hgmc
      go_wp2_with fail
      have hce := come_any gw gd ge gm n A c freshS 0 0 0 w4 hn24 (Nat.zero_le _) M4.out
      rw [come_start, show ((0 : Nat) : Int) = 0 from rfl] at hce
      refine hce.mono ?_
      rintro e w5 ⟨rfl, hms, f5⟩
      have M5 := Lib.hid (hms _ rfl)
      have B5 := Lib.hid (B4.out.fr f5 B4.out.lt (by simp; omega))
      have FW5 := Lib.hid (FW4.out.trans (f5.mono (B' := w.heap.size) (L' := []) FW4.out.size (by simp; omega)))
      clear hms f5 hce M4 B4 FW4 hs4
      have hgd0w : w.heap.size < gd := by omega
      have hge0 : w.heap.size < ge := by omega
      clear hgw3 hgd3 hge3 hgd1 hcs hgw
      go_wp2_with fail
      go_loopw [29] (fun i wr => ∃ (k : Nat) (sk : CS), k ≤ n ∧ i = .int .i64 k ∧ RowKit.Hid (checkF n (pF l) k = some sk) ∧ RowKit.Hid (WMem gw gd ge gm n A c sk wr) ∧ RowKit.Hid (Blk wr w.heap.size 221 (repC (.slice none 0 0) 0 0 false false)) ∧ RowKit.Hid (Fr w.heap.size [] w wr)) (fun i _ => n - (intOf i).toNat)
      case atStart => exact ⟨0, startF n, Nat.zero_le _, rfl, rfl, M5, B5, FW5⟩
      case round =>
        clear M5 B5 FW5
        obtain ⟨k, sk, hk, rfl, HK, MR, BR, FR⟩ := hrel
        by_cases hlt : k < n
        · have hki : (k : Int) < (n : Int) := by omega
          obtain ⟨i, hx⟩ : ∃ i, l[k]? = some i := ⟨_, List.getElem?_eq_getElem (by rw [← HN.out]; exact hlt)⟩
          have I := checkF_inv hk HK.out
          have x0 := MR.out.blk.cell 0
          have xd := (MR.out.dep.cell k).trans (intsA_get _ hlt)
          simp at x0
          have HNX := Lib.hid (show checkF n (pF l) (k + 1) = if sk.D k = -1 then some sk else stepF n (pF l) sk k by
            show (match checkF n (pF l) k with | none => none | some s => if s.D k = -1 then some s else stepF n (pF l) s k) = _
            rw [HK.out])
          by_cases hd : sk.D k = -1
          · rw [hd] at xd
            rw [if_pos hd] at HNX
            clear I hx hd
            go_wp2_with fail
            go_roundw
            case rel => exact ⟨k + 1, sk, by omega, by go_num, HNX, MR, BR, FR⟩
            case measure => simp [intOf]; omega
          · rw [if_neg hd] at HNX
            have hb1 : (sk.D k != -1) = true := by simpa using hd
            have hre := HR.out.fr FR.out hB (by simp)
            have hst := step_any gw gd ge gm A c B l sk k i wr hre ⟨by omega, by omega, by omega⟩ (by rw [← HN.out]; exact hn24) hx (HRB.out k i hx) (by rw [← HN.out]; exact I) (pF l) (pF_of hx) (by rw [← HN.out]; exact MR.out)
            rw [← HN.out] at hst
            rcases (show stepF n (pF l) sk k = none ∨ ∃ s', stepF n (pF l) sk k = some s' by cases stepF n (pF l) sk k; exact .inl rfl; exact .inr ⟨_, rfl⟩) with hq | ⟨s', hq⟩
            · rw [hq] at hst HNX
              have HST := Lib.hid hst
              have hcn : chkL l = none := by
                have h := checkF_none HNX.out (n - (k + 1))
                rw [show k + 1 + (n - (k + 1)) = n by omega] at h
                rw [HCL.out, ← HN.out]
                exact h
              have HCN := Lib.hid hcn
              clear hq hst hcn hre hx I
              go_wp2_with fail
              refine HST.out.mono ?_
              rintro e w6 ⟨rfl, hms, f6⟩
              have B6 := Lib.hid (BR.out.fr f6 BR.out.lt (by simp; omega))
              have F6 := Lib.hid (FR.out.trans (f6.mono (B' := w.heap.size) (L' := []) FR.out.size (by simp; omega)))
              have c0 := B6.out.cell 0
              have c1 := B6.out.cell 1
              have c2 := B6.out.cell 2
              have c3 := B6.out.cell 3
              have c4 := B6.out.cell 4
              have z0 := B6.out.frozen 0
              have z1 := B6.out.frozen 1
              have z2 := B6.out.frozen 2
              have z3 := B6.out.frozen 3
              have z4 := B6.out.frozen 4
              simp at c0 c1 c2 c3 c4
              clear f6 hms HST
              go_wp2_with fail
              refine bodyPost_ret (results_cell_row_tmp rfl _ _ w.heap.size 221 (repC (.slice none 0 0) 0 0 false false) (0, 0) _ rfl (blk_set5 B6.out _ _ _ _ _) Tryz.underlying221 rfl (by kernel_rfl)) rfl ⟨(fun s h => by rw [HCN.out] at h; cases h), (fun _ => rfl), fr_set5 F6.out (.inl (Nat.le_refl _)) _ _ _ _ _⟩
            · rw [hq] at hst HNX
              have HST := Lib.hid hst
              clear hq hst hre hx I
              go_wp2_with fail
              refine HST.out.mono ?_
              rintro e w6 ⟨rfl, hms, f6⟩
              have B6 := Lib.hid (BR.out.fr f6 BR.out.lt (by simp; omega))
              have F6 := Lib.hid (FR.out.trans (f6.mono (B' := w.heap.size) (L' := []) FR.out.size (by simp; omega)))
              have M6 := Lib.hid (hms s' rfl)
              clear f6 hms HST
              go_wp2_with fail
              go_roundw
              case rel => exact ⟨k + 1, s', by omega, by go_num, HNX, M6, B6, F6⟩
              case measure => simp [intOf]; omega
        · obtain rfl : n = k := by omega
          have hcs : chkL l = some sk := by rw [HCL.out, ← HN.out]; exact HK.out
          have HCS := Lib.hid hcs
          have c0 := BR.out.cell 0
          have c1 := BR.out.cell 1
          have c2 := BR.out.cell 2
          have c3 := BR.out.cell 3
          have c4 := BR.out.cell 4
          have z0 := BR.out.frozen 0
          have z1 := BR.out.frozen 1
          have z2 := BR.out.frozen 2
          have z3 := BR.out.frozen 3
          have z4 := BR.out.frozen 4
          have v0 := MR.out.blk.cell 0
          have v1 := MR.out.blk.cell 1
          have v2 := MR.out.blk.cell 2
          have v3 := MR.out.blk.cell 3
          have v4 := MR.out.blk.cell 4
          simp at c0 c1 c2 c3 c4 v0 v1 v2 v3 v4
          clear hcs
          go_wp2_with fail
          refine bodyPost_ret (results_cell_row_tmp rfl _ _ w.heap.size 221 (repC (.slice (some ⟨gd, 0, none⟩) n n) sk.mx sk.em sk.u0 sk.u1) (0, 0) _ rfl (blk_set5 BR.out _ _ _ _ _) Tryz.underlying221 rfl (by kernel_rfl)) rfl ⟨(fun s h => ?_), (fun h => by rw [HCS.out] at h; cases h), fr_set5 FR.out (.inl (Nat.le_refl _)) _ _ _ _ _⟩
          rw [HCS.out] at h
          injection h with h
          subst h
          refine ⟨gd, by rw [HN.out]; rfl, Nat.le_of_lt hgd0w, ?_⟩
          rw [← HN.out]
          have hg : ∀ j, gd ≠ (⟨w.heap.size, j, none⟩ : Addr).block := fun j => by show gd ≠ w.heap.size; omega
          exact ((((MR.out.dep.far (hg 0) _).far (hg 1) _).far (hg 2) _).far (hg 3) _).far (hg 4) _
end Go.Proofs.YtfakgidimekikaaGreat
namespace Go.Proofs.YtfakgidimekikaaGreat
open Go.RowKit Go.Fb
/-- A report that lies in memory. -/
abbrev repV (gd n : Nat) (s : CS) : Array Value := #[.slice (some ⟨gd, 0, none⟩) n n, .int .i64 s.mx, .int .i64 s.em, .bool s.u0, .bool s.u1]
def ChkYes (n : Nat) (s : CS) (w : World) (e : Ending) (w' : World) : Prop :=
  ∃ gd, e = .returned (.tuple #[.agg (repV gd n s), .int .i64 0]) ∧ w.heap.size ≤ gd ∧ Blk w' gd 3 (intsA n s.D) ∧ Fr w.heap.size [] w w'
theorem check_yes {A : Option Addr} {c B : Nat} {l : List (Int × Int)} {s : CS} {w : World} (hr : Reads w B 2 A l.length (cellsI l)) (hB : B ≤ w.heap.size) (hn : l.length ≤ maxLen) (h : chkL l = some s) :
    Calls Tryz.prog 159 #[.slice A l.length c] w (ChkYes l.length s w) :=
  (check_any A c B l w hr hB hn).mono fun e w' ⟨h1, _, h3⟩ => by
    obtain ⟨gd, a, b, d⟩ := h1 s h
    exact ⟨gd, a, b, d, h3⟩
theorem check_no {A : Option Addr} {c B : Nat} {l : List (Int × Int)} {w : World} (hr : Reads w B 2 A l.length (cellsI l)) (hB : B ≤ w.heap.size) (hn : l.length ≤ maxLen) (h : chkL l = none) :
    Calls Tryz.prog 159 #[.slice A l.length c] w fun e w' => e = .returned (.tuple #[.agg #[.slice none 0 0, .int .i64 0, .int .i64 0, .bool false, .bool false], .int .i64 9]) ∧ Fr w.heap.size [] w w' :=
  (check_any A c B l w hr hB hn).mono fun _ _ ⟨_, h2, h3⟩ => ⟨h2 h, h3⟩
set_option maxRecDepth 100000 in
theorem safe_yes {A : Option Addr} {c B : Nat} {l : List (Int × Int)} {s : CS} {w : World} (hr : Reads w B 2 A l.length (cellsI l)) (hB : B ≤ w.heap.size) (hn : l.length ≤ maxLen) (h : chkL l = some s) :
    Calls Tryz.prog 135 #[.slice A l.length c] w fun e w' => e = .returned (.bool true) ∧ Fr w.heap.size [] w w' := by
  have H := Lib.hid (check_yes (c := c) hr hB hn h)
  clear hr hB hn h
  generalize l.length = n at *
  go_enter Tryz.func135, Tryz.ntmps135
  go_wp2_with fail
  refine H.out.mono ?_
  rintro e w1 ⟨gd, rfl, _, _, f1⟩
  have F1 := Lib.hid f1
  clear f1
  go_wp2_with fail
  go_ret
  exact ⟨rfl, F1.out.alloc F1.out.size _⟩
set_option maxRecDepth 100000 in
theorem safe_no {A : Option Addr} {c B : Nat} {l : List (Int × Int)} {w : World} (hr : Reads w B 2 A l.length (cellsI l)) (hB : B ≤ w.heap.size) (hn : l.length ≤ maxLen) (h : chkL l = none) :
    Calls Tryz.prog 135 #[.slice A l.length c] w fun e w' => e = .returned (.bool false) ∧ Fr w.heap.size [] w w' := by
  have H := Lib.hid (check_no (c := c) hr hB hn h)
  clear hr hB hn h
  generalize l.length = n at *
  go_enter Tryz.func135, Tryz.ntmps135
  go_wp2_with fail
  refine H.out.mono ?_
  rintro e w1 ⟨rfl, f1⟩
  have F1 := Lib.hid f1
  clear f1
  go_wp2_with fail
  go_ret
  exact ⟨rfl, F1.out.alloc F1.out.size _⟩
theorem awake_one : ∃ s, chkL [(3, 0), (14, 0)] = some s ∧ s.D 0 = 0 ∧ s.D 1 = 1 ∧ s.mx = 1 ∧ s.em = 1 := ⟨_, rfl, rfl, rfl, rfl, rfl⟩
theorem awake_two : chkL [(14, 0)] = none := rfl
end Go.Proofs.YtfakgidimekikaaGreat
