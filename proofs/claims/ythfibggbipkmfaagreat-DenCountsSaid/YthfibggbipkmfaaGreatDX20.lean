/- Texts merged into one, for the number of files a claim may have: DnC, DnQ, StpA, GAwake, FlE, DnO, DnK, GraphGrows. -/
import Derived.Test.YthfibggbipkmfaaGreatDX4
import Derived.Test.YthfibggbipkmfaaGreatDX6
import Derived.Test.YthfibggbipkmfaaGreatDX11
import Derived.Test.YthfibggbipkmfaaGreatDX12
import Derived.Test.YthfibggbipkmfaaGreatDX13
import Derived.Test.YthfibggbipkmfaaGreatDX16
import Derived.Test.YthfibggbipkmfaaGreatDX19
import Derived.BigRegion
import Derived.Deep.DeepCutAuto
import Derived.Deep.RegionHeld3
namespace Go.Proofs.YthfibggbipkmfaaGreat
open Go.RowKit Go.Fb
set_option linter.unusedVariables false
/-- The counts at the start. -/
def cnt0 (L : List Nd) : Int → Option Int := fun x => if x ∈ idsN L then some 0 else none
/-- One record more; records. -/
def oneD (L : List Nd) (s : DS) (x : Nat → Int) : DS := putD L 8 0 (x 0) (x 1, x 2) ⟨s.T, s.out, cntU s.C 0⟩
def flowD (L : List Nd) (l : List (Nat → Int)) (S : DS) : DS := l.foldl (oneD L) S
theorem one_ahead (L : List Nd) (s : DS) (x : Nat → Int) : Ahead s (oneD L s x) := Ahead.trans (b := ⟨s.T, s.out, cntU s.C 0⟩) ⟨[], by simp⟩ (put_ahead L 8 _ _ _ _)
theorem recR_ok {x : Nat → Int} (h : recR x = true) : keyOk (x 0) ∧ vOk (x 1, x 2) := by
  unfold recR recB at h
  rw [Bool.and_eq_true] at h
  obtain ⟨h1, h2⟩ := h
  refine ⟨?_, h2⟩
  simp at h1
  unfold keyOk
  omega
theorem one_ok {L : List Nd} (h : RightG L) {s : DS} {x : Nat → Int} (hx : recR x = true) (hT : TOk s.T) : TOk (oneD L s x).T := put_ok h 8 _ _ _ _ (recR_ok hx).1 (recR_ok hx).2 hT
theorem flow_ahead (L : List Nd) (l : List (Nat → Int)) (s : DS) : Ahead s (flowD L l s) := foldl_ahead _ (one_ahead L) l s
theorem flow_ok {L : List Nd} (h : RightG L) {l : List (Nat → Int)} (hl : l.all recR = true) {s : DS} (hT : TOk s.T) : TOk (flowD L l s).T :=
  foldl_ind (fun s : DS => TOk s.T) _ _ _ hT fun s x hx hs => one_ok h (List.all_eq_true.1 hl x hx) hs
theorem flow_snoc (L : List Nd) (l : List (Nat → Int)) (x : Nat → Int) (s : DS) : flowD L (l ++ [x]) s = oneD L (flowD L l s) x := by unfold flowD; rw [List.foldl_append]; rfl
def FlowsD (L : List Nd) (l : List (Nat → Int)) (T : Pk → CV) (gt gm : Nat) (w : World) (e : Ending) (w' : World) : Prop :=
  (l.all recR = false ∧ e = .returned (.tuple #[.pointer none, .int .i64 1]) ∧ Fr w.heap.size [] w w') ∨
  (l.all recR = true ∧ ∃ b0 gf gn gc gk A n c, e = .returned (.tuple #[.pointer (some ⟨gf, 0, none⟩), .int .i64 0]) ∧ FlD b0 w' gf gn gc gk gt (flowD L l ⟨T, [], cnt0 L⟩).C (flowD L l ⟨T, [], cnt0 L⟩).out A n c ∧ CT w' gt gm (flowD L l ⟨T, [], cnt0 L⟩).T ∧ w.heap.size ≤ b0 ∧ w.heap.size ≤ gk ∧ Fr w.heap.size [gm] w w')
set_option maxRecDepth 100000 in
set_option maxHeartbeats 8000000 in
theorem flowsD_any (gt gm : Nat) (T : Pk → CV) (A Ar : Option Addr) (c cr B Br n nr : Nat) (M : List Ndm) (l : List (Nat → Int)) (w : World) (h : Nds w B A n M) (hB : B ≤ w.heap.size) (hs : Small M) (hr : RightG (fstN M)) (hnr : nr = l.length) (hn : nr ≤ 1000) (hrd : Reads w Br 3 Ar nr (cellsR l))
    (hct : CT w gt gm T) (hBr : Br ≤ w.heap.size) (hBg : Br ≤ gm) (hTO : TOk T) (hlen : l.all recR = true → (flowD (fstN M) l ⟨T, [], cnt0 (fstN M)⟩).out.length ≤ 6000000000) :
    Calls Tryz.prog 32 #[.slice A n c, .pointer (some ⟨gt, 0, none⟩), .slice Ar nr cr] w (FlowsD (fstN M) l T gt gm w) := by
  obtain ⟨L, hL⟩ : ∃ L, L = fstN M := ⟨_, rfl⟩
  have HCK := Lib.hid (gcheck_any A c B n M w h hB hs)
  have HMD := Lib.hid (fun (wx : World) (hx : Fr w.heap.size [] w wx) => made_any gt A c B n M wx (h.frw hx hB (by simp)) (Nat.le_trans hB hx.size) hs hr)
  have HCF := Lib.hid (fun (wx : World) (hx : Fr w.heap.size [] w wx) => rccontains_any 56 #[] (fun x => !recR x) Ar cr Br nr l wx (enters_of Tryz.func56 (by kernel_rfl) rfl) (fun x w' _ _ => by exact flows1_any x w') hnr (by omega) (hrd.fr hx hBr (by simp)) (Nat.le_trans hBr hx.size))
  rw [checkN_zero.2 hr] at HCK
  rw [← hL] at HMD hlen ⊢
  have hgt := hct.bk.lt
  have hgm := hct.mp.lt
  have HCT := Lib.hid hct
  have HTO := Lib.hid hTO
  have HLEN := Lib.hid hlen
  have hr2 : RightG L := by rw [hL]; exact hr
  have HRG := Lib.hid hr2
  have HRD := Lib.hid (fun (wx : World) (hf : Fr w.heap.size [gm] w wx) => (hrd.fr hf hBr (by simp; exact hBg) : Reads wx Br 3 Ar nr (cellsR l)))
  have HNR := Lib.hid hnr
  obtain ⟨ab, hab⟩ : ∃ b, b = l.any (fun x => !recR x) := ⟨_, rfl⟩
  rw [← hab] at HCF
  have HAB := Lib.hid (show l.all recR = !ab by rw [hab, List.not_any_eq_all_not]; simp)
  clear h hs hr hnr hrd hct hTO hlen hab hL hr2
  go_enter Tryz.func32, Tryz.ntmps32
  go_wp2_with fail
  refine HCK.out.mono ?_
  rintro e w1 ⟨rfl, f1⟩
  have F1 := Lib.hid f1
  have HC1 := Lib.hid (HCF.out w1 f1)
  clear f1 HCK HCF
  go_wp2_with fail
  refine HC1.out.mono ?_
  rintro e w2 ⟨rfl, f2⟩
  have F2 := Lib.hid (F1.out.trans (f2.mono (B' := w.heap.size) (L' := []) F1.out.size (by simp)))
  have HM2 := Lib.hid (HMD.out w2 F2.out)
  clear f2 HC1 F1 HMD
  cases ab with
  | true =>
    go_wp2_with fail
    go_ret2
    exact .inl ⟨HAB.out, rfl, F2.out⟩
  | false => ?_
  go_wp2_with fail
  refine HM2.out.mono ?_
  rintro e w3 ⟨lo, gf, gn, gc, gk, M', TN, TC, TK, rfl, hb3, hfl, hgn, f3⟩
  have F3 := Lib.hid (F2.out.trans (f3.mono (B' := w.heap.size) (L' := []) F2.out.size (by simp)))
  obtain ⟨b0, hb0⟩ : ∃ b, b = w3.heap.size := ⟨_, rfl⟩
  obtain ⟨o1, o2, o3, o4, o5⟩ := And.intro hfl.o1 (And.intro hfl.o2 (And.intro hfl.o3 (And.intro hfl.o4 hfl.o5)))
  have hwgn : w.heap.size ≤ gn := Nat.le_trans F2.out.size hgn
  have hmem : ∀ x ∈ L, ∃ m ∈ M', m.1 = x := fun x hx => by
    have hxm : x ∈ fstN M' := by rw [hfl.nm]; exact (normL_perm L).mem_iff.2 hx
    obtain ⟨m, hm, e⟩ := List.mem_map.1 hxm
    exact ⟨m, hm, e⟩
  have hFS : FlS b0 w3 gf gn gc gk gt gm L TN TC := by
    refine ⟨hfl.fm.n, hfl.fm.c, fun x hx => ?_, fun x hx => ?_, by omega, by omega, o1, o2, o3, by omega, by omega⟩
    · obtain ⟨m, hm, rfl⟩ := hmem x hx
      obtain ⟨⟨⟨A1, c1, e1, _⟩, ⟨A2, c2, e2, r2⟩⟩, _, g2⟩ := hfl.inn m hm
      have h5 := hfl.fm.ns m (by rw [List.take_length]; exact hm)
      rw [e2] at g2
      exact ⟨A1, _, c1, A2, _, c2, by rw [h5, e1, e2], rfl, by rw [hb0]; exact r2, fresh_le g2 (by omega)⟩
    · obtain ⟨m, hm, rfl⟩ := hmem x hx
      obtain ⟨A', q', c', h1, h2, h3, h4⟩ := hfl.fm.cs m (by rw [List.take_length]; exact hm)
      exact ⟨A', q', c', h1, h2, by rw [hb0]; exact h3, fresh_le h4 (by omega)⟩
  have hC0 : TK = cntT (cnt0 L) := by
    funext y
    unfold cntT cnt0
    by_cases hy : y ∈ idsN L
    · rw [if_pos hy]
      obtain ⟨x, hx, rfl⟩ := List.mem_map.1 hy
      obtain ⟨m, hm, rfl⟩ := hmem x hx
      exact hfl.fm.ks m (by rw [List.take_length]; exact hm)
    · rw [if_neg hy]
      cases hTK : TK y with
      | none => rfl
      | some v =>
        obtain ⟨m, hm, e⟩ := hfl.fm.kn y (by rw [hTK]; simp)
        rw [List.take_length] at hm
        exfalso
        apply hy
        have h1 : m.1 ∈ fstN M' := List.mem_map.2 ⟨m, hm, rfl⟩
        rw [hfl.nm] at h1
        exact List.mem_map.2 ⟨m.1, (normL_perm L).mem_iff.1 h1, e⟩
  obtain ⟨x0, hx0, he0⟩ : ∃ x ∈ L, x.id = 0 := List.mem_map.1 HRG.out.zero
  have HX0 := Lib.hid hx0
  have HE0 := Lib.hid he0
  have HFS := Lib.hid hFS
  have HCT3 := Lib.hid (HCT.out.fr F3.out hgt (by simp) hgm (by simp))
  have HD3 := Lib.hid (FlD.mk (b0 := b0) (gn := gn) (gc := gc) (gt := gt) (out := []) (A := none) (n := 0) (c := 0) rfl hb3 (by rw [← hC0]; exact hfl.fm.q) (World.ownsRow_nil _ _ _ _))
  have hb3s : b0 ≤ w3.heap.size := by omega
  have hb3t : w.heap.size ≤ b0 := by rw [hb0]; exact F3.out.size
  have hb3u : w3.heap.size ≤ b0 := by omega
  have hgfb : gf < b0 := by omega
  have HB0 := Lib.hid hb0
  have HZI := Lib.hid (show ∀ u, (zeroValue 3).run Tryz.prog u = .ok (.int .i64 0) u from fun u => by kernel_rfl)
  have HPA := Lib.hid (fun (key : Int) (v : Int × Int) (S : DS) (A : Option Addr) (n c : Nat) (w : World) (hI : PutIn b0 w3 gf gn gc gk gt gm key v S A n c w) (hl : (putD L 8 x0.id key v S).out.length ≤ 6000000000) => put_any b0 gf gn gc gk gt gm w3 L TN TC hFS HRG.out (posI (sortN L)) 8 (complete_rank HRG.out.uni HRG.out.complete) (fun n hn => Nat.lt_of_lt_of_le (posI_lt (complete_all HRG.out.complete hn)) (by have h1 := HRG.out.complete; have h2 := HRG.out.len; unfold Complete at h1; omega)) 8 x0 hx0 (Nat.le_add_right _ _) key v S A n c w hI hl)
  rw [he0] at HPA
  clear hfl f3 HM2 F2 hb3 hC0 hb0 hmem hFS hx0 he0 HCT
  go_wp2_with fail
  go_loopg [10, 27] nr (fun g s10 s27 wr => ∃ (k : Nat) (A' : Option Addr) (n' c' : Nat), k ≤ nr ∧ g = nr - k ∧ s27 = .int .i64 k ∧ (s10 = undef ∨ ∃ a, s10 = .pointer a) ∧ RowKit.Hid (FlD b0 wr gf gn gc gk gt (flowD L (l.take k) ⟨T, [], cnt0 L⟩).C (flowD L (l.take k) ⟨T, [], cnt0 L⟩).out A' n' c') ∧ RowKit.Hid (CT wr gt gm (flowD L (l.take k) ⟨T, [], cnt0 L⟩).T) ∧ RowKit.Hid (Fr b0 [gf, gk, gm] w3 wr))
  case atStart => exact ⟨0, none, 0, 0, Nat.zero_le _, rfl, rfl, .inl rfl, HD3, HCT3, Lib.hid (Fr.refl _ _ _)⟩
  case round =>
    clear HD3 HCT3
    obtain ⟨k, A', n', c', hk, rfl, rfl, h10, D, CTK, F⟩ := hrel
    have hszr := F.out.size
    have FW := Lib.hid ((F3.out.mono (B' := w.heap.size) (L' := [gm]) (Nat.le_refl _) (by simp)).trans (F.out.mono (B' := w.heap.size) (L' := [gm]) (by omega) (by intro q hq hlt; simp at hq ⊢; omega)))
    by_cases hkn : k < nr
    · have hki : (k : Int) < (nr : Int) := by omega
      have hk0 : (0 : Int) ≤ (k : Int) := by omega
      obtain ⟨x, hx⟩ : ∃ x, l[k]? = some x := ⟨_, List.getElem?_eq_getElem (by rw [← HNR.out]; exact hkn)⟩
      have hrl := HRD.out wr FW.out
      rw [HNR.out] at hrl
      obtain ⟨b1, of1, rfl, hb1, hc1⟩ := reads_rec hrl hx
      have p0 := hc1 0 (by omega)
      have p1 := hc1 1 (by omega)
      have p2 := hc1 2 (by omega)
      simp only [Nat.add_zero, ← Nat.add_assoc] at p0 p1 p2
      have hTK0 : l.take (k + 1) = l.take k ++ [x] := by rw [List.take_add_one, hx]; rfl
      obtain ⟨SK, hSK⟩ : ∃ s, s = flowD L (l.take k) ⟨T, [], cnt0 L⟩ := ⟨_, rfl⟩
      have HTK := Lib.hid (show flowD L (l.take (k + 1)) ⟨T, [], cnt0 L⟩ = oneD L SK x by rw [hTK0, flow_snoc, hSK])
      have HRX := Lib.hid (recR_ok (List.all_eq_true.1 HAB.out x (List.mem_of_getElem? hx)))
      have HTS := Lib.hid (show TOk SK.T by
        rw [hSK]
        exact flow_ok HRG.out (List.all_eq_true.2 fun y hy => List.all_eq_true.1 HAB.out y (List.mem_of_mem_take hy)) HTO.out)
      have HLK := Lib.hid (show (oneD L SK x).out.length ≤ 6000000000 by
        rw [← HTK.out]
        refine Nat.le_trans (Ahead.len ?_) (HLEN.out HAB.out)
        have e : flowD L l ⟨T, [], cnt0 L⟩ = flowD L (l.drop (k + 1)) (flowD L (l.take (k + 1)) ⟨T, [], cnt0 L⟩) := by
          unfold flowD
          rw [← List.foldl_append, List.take_append_drop]
        rw [e]
        exact flow_ahead _ _ _)
      rw [← hSK] at D CTK
      clear hc1 hrl hx hb1 hTK0 hSK
      have fa := (Fr.refl wr.heap.size [] wr).alloc (Nat.le_refl _) (.cells #[.int .i64 (x 0), .int .i64 (x 1), .int .i64 (x 2)] 56)
      have BX := Lib.hid (Blk.new wr 56 #[.int .i64 (x 0), .int .i64 (x 1), .int .i64 (x 2)])
      have DA := Lib.hid (D.out.mv fa)
      have CTA := Lib.hid (CTK.out.keep fa)
      have FA := Lib.hid (F.out.trans (fa.mono (B' := b0) (L' := [gf, gk, gm]) (by omega) (by simp)))
      clear fa D F FW CTK
      go_upto_region 9 with fail
      clear p0 p1 p2
      generalize wr.alloc (.cells #[.int .i64 (x 0), .int .i64 (x 1), .int .i64 (x 2)] 56) = wa at *
      obtain ⟨gx, hgx⟩ : ∃ g, g = wr.heap.size := ⟨_, rfl⟩
      rw [← hgx] at BX ⊢
      have hgx0 : b0 ≤ gx := by omega
      clear hgx hszr
      have q4 : wa.cell? ⟨gf, 4, none⟩ = some (.map (some gk)) := DA.out.blk.cell 4
      have hlc := DA.out.cnt.look Tryz.underlying34 HZI.out 0
      rw [cntT_get] at hlc
      obtain ⟨v, hv⟩ : ∃ v, v = (SK.C 0).getD 0 := ⟨_, rfl⟩
      rw [← hv] at hlc
      obtain ⟨w5, hup, hm5, f5, hs5⟩ := DA.out.cnt.upd Tryz.underlying34 0 (.int .i64 (wrap64 (v + 1)))
      rw [hv, cntU_T] at hm5
      have hltx : gx < wa.heap.size := BX.out.lt
      have BX5 := Lib.hid (BX.out.fr f5 BX.out.lt (by simp; omega))
      have D5 := Lib.hid (show FlD b0 w5 gf gn gc gk gt (cntU SK.C 0) SK.out A' n' c' from ⟨DA.out.num, DA.out.blk.fr f5 DA.out.blk.lt (by simp; omega), hm5, ownsRow_fr DA.out.row f5 (fun q hq => ⟨(DA.out.row.lt q hq).2, by have := (DA.out.row.lt q hq).1; simp; omega⟩)⟩)
      have CT5 := Lib.hid (CTA.out.fr f5 CTA.out.bk.lt (by simp; omega) CTA.out.mp.lt (by simp; omega))
      have F5 := Lib.hid (FA.out.trans (f5.mono (B' := b0) (L' := [gf, gk, gm]) (by omega) (by simp)))
      have hb5 : b0 ≤ w5.heap.size := by omega
      clear hm5 f5 hs5 hv DA FA BX CTA
      go_upto_region 10 with fail
      clear q4 hlc hup
      have HPT := Lib.hid (HPA.out (x 0) (x 1, x 2) ⟨SK.T, SK.out, cntU SK.C 0⟩ A' n' c' w5 ⟨HRX.out.1, HRX.out.2, HTS.out, D5.out, CT5.out, F5.out⟩ HLK.out)
      have x0 := BX5.out.cell 0
      have x1 := BX5.out.cell 1
      have x2 := BX5.out.cell 2
      simp at x0 x1 x2
      go_wp2_with fail
      refine HPT.out.mono ?_
      rintro e w6 ⟨rfl, A6, n6, c6, d6, _, ct6, f6⟩
      have D6 := Lib.hid (show FlD b0 w6 gf gn gc gk gt (flowD L (l.take (k + 1)) ⟨T, [], cnt0 L⟩).C (flowD L (l.take (k + 1)) ⟨T, [], cnt0 L⟩).out A6 n6 c6 by rw [HTK.out]; exact d6)
      have CT6 := Lib.hid (show CT w6 gt gm (flowD L (l.take (k + 1)) ⟨T, [], cnt0 L⟩).T by rw [HTK.out]; exact ct6)
      have F6 := Lib.hid (F5.out.trans (f6.mono (B' := b0) (L' := [gf, gk, gm]) hb5 (fun q hq hlt => by
        simp at hq
        rcases hq with e | e | e | e
        · simp [e]
        · simp [e]
        · simp [e]
        · have := (D5.out.row.lt q e).1
          omega)))
      clear d6 ct6 f6 HPT D5 F5 CT5 x0 x1 x2
      go_wp2_with fail
      go_roundg (nr - (k + 1))
      case measure => omega
      case rel => exact ⟨k + 1, A6, n6, c6, by omega, rfl, by go_num, .inr ⟨_, rfl⟩, D6, CT6, F6⟩
    · obtain rfl : nr = k := by omega
      have hT : l.take nr = l := List.take_of_length_le (by rw [HNR.out]; exact Nat.le_refl _)
      rw [hT] at D CTK
      clear hT
      go_wp2_with fail
      go_ret2
      exact .inr ⟨HAB.out, b0, gf, gn, gc, gk, A', n', c', rfl, D.out, CTK.out, by omega, by omega, FW.out⟩
set_option maxRecDepth 100000 in
set_option maxHeartbeats 2000000 in
theorem flows_bad (gt : Option Addr) (A Ar : Option Addr) (c cr B n nr : Nat) (M : List Ndm) (w : World) (h : Nds w B A n M) (hB : B ≤ w.heap.size) (hs : Small M) (hr : checkN (fstN M) ≠ 0) :
    Calls Tryz.prog 32 #[.slice A n c, .pointer gt, .slice Ar nr cr] w fun e w' => e = .returned (.tuple #[.pointer none, .int .i64 10]) ∧ Fr w.heap.size [] w w' := by
  have HCK := Lib.hid (gcheck_any A c B n M w h hB hs)
  obtain ⟨k, hk⟩ : ∃ k, k = checkN (fstN M) := ⟨_, rfl⟩
  rw [← hk] at HCK hr
  clear hk h hs
  go_enter Tryz.func32, Tryz.ntmps32
  go_wp2_with fail
  refine HCK.out.mono ?_
  rintro e w1 ⟨rfl, f1⟩
  have F1 := Lib.hid f1
  clear f1 HCK
  go_wp2_with fail
  go_ret2
  exact ⟨rfl, F1.out⟩
/-- What Run gives: the lines, or why not. -/
def DRunD (L : List Nd) (l : List (Nat → Int)) (T : Pk → CV) (gt gm : Nat) (w : World) (e : Ending) (w' : World) : Prop :=
  (l.all recR = false ∧ e = .returned (.tuple #[.slice none 0 0, .int .i64 1]) ∧ Fr w.heap.size [] w w') ∨
  (l.all recR = true ∧ ∃ A n c, e = .returned (.tuple #[.slice A n c, .int .i64 0]) ∧ w'.ownsRow w.heap.size 44 5 (.slice A n c) n (cellsLn (flowD L l ⟨T, [], cnt0 L⟩).out) ∧ CT w' gt gm (flowD L l ⟨T, [], cnt0 L⟩).T ∧ Fr w.heap.size [gm] w w')
set_option maxRecDepth 100000 in
set_option maxHeartbeats 4000000 in
theorem drunD_any (gt gm : Nat) (T : Pk → CV) (A Ar : Option Addr) (c cr B Br n nr : Nat) (M : List Ndm) (l : List (Nat → Int)) (w : World) (h : Nds w B A n M) (hB : B ≤ w.heap.size) (hs : Small M) (hr : RightG (fstN M)) (hnr : nr = l.length) (hn : nr ≤ 1000) (hrd : Reads w Br 3 Ar nr (cellsR l))
    (hct : CT w gt gm T) (hBr : Br ≤ w.heap.size) (hBg : Br ≤ gm) (hTO : TOk T) (hlen : l.all recR = true → (flowD (fstN M) l ⟨T, [], cnt0 (fstN M)⟩).out.length ≤ 6000000000) :
    Calls Tryz.prog 13 #[.slice A n c, .pointer (some ⟨gt, 0, none⟩), .slice Ar nr cr] w (DRunD (fstN M) l T gt gm w) := by
  have H := Lib.hid (flowsD_any gt gm T A Ar c cr B Br n nr M l w h hB hs hr hnr hn hrd hct hBr hBg hTO hlen)
  obtain ⟨X, hX⟩ : ∃ X, X = flowD (fstN M) l ⟨T, [], cnt0 (fstN M)⟩ := ⟨_, rfl⟩
  unfold FlowsD at H
  unfold DRunD
  rw [← hX] at H ⊢
  clear h hs hr hnr hrd hct hTO hlen hX
  go_enter Tryz.func13, Tryz.ntmps13
  go_wp2_with fail
  refine H.out.mono ?_
  rintro e w1 (⟨ha, rfl, f1⟩ | ⟨ha, b0, gf, gn, gc, gk, A1, n1, c1, rfl, hd, hct, hb0, _, f1⟩)
  · have F1 := Lib.hid f1
    have HA := Lib.hid ha
    clear f1 ha H
    go_wp2_with fail
    go_ret2
    exact .inl ⟨HA.out, rfl, F1.out⟩
  · have F1 := Lib.hid f1
    have HA := Lib.hid ha
    have HD := Lib.hid hd
    have HCT := Lib.hid hct
    have HB0 := Lib.hid hb0
    have q3 : w1.cell? ⟨gf, 3, none⟩ = some (.slice A1 n1 c1) := hd.blk.cell 3
    clear f1 ha H hd hct hb0
    go_wp2_with fail
    go_ret2
    exact .inr ⟨HA.out, A1, n1, c1, rfl, ownsRow_base HD.out.row HB0.out, HCT.out, F1.out⟩
set_option maxRecDepth 100000 in
set_option maxHeartbeats 2000000 in
theorem drun_bad (gt : Option Addr) (A Ar : Option Addr) (c cr B n nr : Nat) (M : List Ndm) (w : World) (h : Nds w B A n M) (hB : B ≤ w.heap.size) (hs : Small M) (hr : checkN (fstN M) ≠ 0) :
    Calls Tryz.prog 13 #[.slice A n c, .pointer gt, .slice Ar nr cr] w fun e w' => e = .returned (.tuple #[.slice none 0 0, .int .i64 10]) ∧ Fr w.heap.size [] w w' := by
  have H := Lib.hid (flows_bad gt A Ar c cr B n nr M w h hB hs hr)
  clear h hs hr
  go_enter Tryz.func13, Tryz.ntmps13
  go_wp2_with fail
  refine H.out.mono ?_
  rintro e w1 ⟨rfl, f1⟩
  have F1 := Lib.hid f1
  clear f1 H
  go_wp2_with fail
  go_ret2
  exact ⟨rfl, F1.out⟩
end Go.Proofs.YthfibggbipkmfaaGreat
namespace Go.Proofs.YthfibggbipkmfaaGreat
open Go.RowKit Go.Fb
set_option linter.unusedVariables false
/-- At most so many lines come of a node that has h nodes behind it in the order. -/
def mostD : Nat → Nat
  | 0 => 0
  | h + 1 => (h + 1) * (4 * mostD h + 1)
theorem mostD_mono : ∀ {a b : Nat}, a ≤ b → mostD a ≤ mostD b
  | 0, b, _ => Nat.zero_le _
  | a + 1, 0, h => by omega
  | a + 1, b + 1, h => by
    unfold mostD
    have := mostD_mono (a := a) (b := b) (by omega)
    exact Nat.mul_le_mul (by omega) (by omega)
theorem foldl_few {α : Type} (f : DS → α → DS) (b : Nat) : ∀ (l : List α) (s : DS), (∀ s a, a ∈ l → TOk s.T → TOk (f s a).T ∧ (f s a).out.length ≤ s.out.length + b) → TOk s.T → (l.foldl f s).out.length ≤ s.out.length + l.length * b
  | [], s, _, _ => Nat.le_add_right _ _
  | a :: l, s, h, hT => by
    obtain ⟨h1, h2⟩ := h s a (by simp) hT
    have h3 := foldl_few f b l (f s a) (fun s x hx => h s x (by simp [hx])) h1
    rw [List.length_cons, Nat.succ_mul]
    exact Nat.le_trans h3 (by omega)
theorem few_nats : ∀ {l : List Nat} {a b : Nat}, l.Nodup → (∀ x ∈ l, a < x ∧ x < b) → l.length ≤ b - a - 1 := by
  intro l a b hn h
  have h1 : l.length ≤ ((List.range b).filter fun x => decide (a < x)).length := nodup_subG hn (fun x hx => List.mem_filter.2 ⟨List.mem_range.2 (h x hx).2, decide_eq_true (h x hx).1⟩)
  have h2 : ∀ b : Nat, ((List.range b).filter fun x => decide (a < x)).length = b - a - 1 := by
    intro b
    induction b with
    | zero => simp
    | succ b ih =>
      rw [List.range_succ, List.filter_append, List.length_append, ih]
      by_cases c : a < b
      · rw [List.filter_cons_of_pos (by simpa using c)]; simp; omega
      · rw [List.filter_cons_of_neg (by simpa using c)]; simp; omega
  rw [h2] at h1
  exact h1
theorem child_few {L : List Nd} (h : RightG L) {x : Nd} (hx : x ∈ L) : (childN L x.id).length ≤ 7 - posI (sortN L) x.id := by
  have hc := h.complete
  have hlen : (sortN L).length ≤ 8 := by have h1 := h.len; have h2 : (sortN L).length = L.length := hc; omega
  have hnd : (childN L x.id).Nodup := (childN_rises L x.id).imp (fun h e => by omega)
  have hmem : ∀ c ∈ childN L x.id, c ∈ sortN L ∧ posI (sortN L) x.id < posI (sortN L) c := fun c hc' => by
    obtain ⟨y, hy, e, _, _, hf⟩ := child_node h hc'
    subst e
    exact ⟨complete_all hc hy, complete_rank h.uni hc y hy x.id hf⟩
  have h1 : ((childN L x.id).map (posI (sortN L))).Nodup := by
    refine List.Pairwise.map _ (fun a b hab => hab) ?_
    refine (List.Pairwise.and_mem.1 hnd).imp ?_
    rintro a b ⟨ha, hb, hab⟩ e
    apply hab
    have e1 := posI_get (hmem a ha).1
    have e2 := posI_get (hmem b hb).1
    rw [e, e2] at e1
    injection e1 with e1
    exact e1.symm
  have h2 := few_nats (a := posI (sortN L) x.id) (b := 8) h1 (fun y hy => by
    obtain ⟨c, hc', rfl⟩ := List.mem_map.1 hy
    exact ⟨(hmem c hc').2, Nat.lt_of_lt_of_le (posI_lt (hmem c hc').1) hlen⟩)
  rw [List.length_map] at h2
  omega
theorem put_few {L : List Nd} (h : RightG L) : ∀ (d : Nat) (x : Nd), x ∈ L → ∀ (key : Int) (v : Int × Int) (S : DS), keyOk key → vOk v → TOk S.T → (putD L d x.id key v S).out.length ≤ S.out.length + mostD (7 - posI (sortN L) x.id)
  | 0, x, hx, key, v, S, _, _, _ => Nat.le_add_right _ _
  | d + 1, x, hx, key, v, S, hk, hv, hT => by
    have hcf := child_few h hx
    obtain ⟨m, hm⟩ : ∃ m, m = 7 - posI (sortN L) x.id := ⟨_, rfl⟩
    rw [← hm] at hcf ⊢
    unfold putD
    cases m with
    | zero =>
      have : childN L x.id = [] := List.eq_nil_of_length_eq_zero (by omega)
      rw [this]
      exact Nat.le_add_right _ _
    | succ m =>
      refine Nat.le_trans (foldl_few _ (4 * mostD m + 1) _ _ (fun s c hc hs => ?_) hT) (by have h9 := Nat.mul_le_mul_right (4 * mostD m + 1) hcf; have e9 : mostD (m + 1) = (m + 1) * (4 * mostD m + 1) := rfl; rw [e9]; omega)
      refine ⟨come_ok h hc hk hv hs, ?_⟩
      obtain ⟨y, hy, e, hf, h0, hfx⟩ := child_node h hc
      unfold comeD
      rw [hf]
      simp only
      split
      · simp
      · rename_i h2
        obtain ⟨t, ht⟩ := op_safe h hy h2 (by rw [e]; exact h0)
        obtain ⟨k1, k2⟩ := keep_ok h hy ht hs hk hv
        rw [e] at k1 k2
        have hrk := complete_rank h.uni h.complete y hy x.id hfx
        rw [e] at hrk
        have h4 : (emitsD y s.T c key v).length ≤ 4 := outP_four ht hv (cvB_ok (T_ok hs _))
        have hst := foldl_few (fun s u => putD L d c key u s) (mostD m) (emitsD y s.T c key v) ⟨keepD y s.T c key v, s.out, cntU s.C c⟩ (fun s' u hu hs' => ⟨put_ok h d c key u s' hk (k2 u hu) hs', by
          have h6 := put_few h d y hy key u s' hk (k2 u hu) hs'
          rw [e] at h6
          exact Nat.le_trans h6 (Nat.add_le_add_left (mostD_mono (by omega)) _)⟩) k1
        refine Nat.le_trans hst ?_
        have := Nat.mul_le_mul_right (mostD m) h4
        show s.out.length + _ ≤ _
        omega
theorem flow_few {L : List Nd} (h : RightG L) {l : List (Nat → Int)} (hl : l.all recR = true) {S : DS} (hT : TOk S.T) : (flowD L l S).out.length ≤ S.out.length + l.length * 26507215 := by
  obtain ⟨x0, hx0, he0⟩ : ∃ x ∈ L, x.id = 0 := List.mem_map.1 h.zero
  refine foldl_few (oneD L) 26507215 l S (fun s x hx hs => ?_) hT
  have hr := List.all_eq_true.1 hl x hx
  refine ⟨one_ok h hr hs, ?_⟩
  have h1 := put_few h 8 x0 hx0 (x 0) (x 1, x 2) ⟨s.T, s.out, cntU s.C 0⟩ (recR_ok hr).1 (recR_ok hr).2 hs
  rw [he0] at h1
  refine Nat.le_trans h1 (Nat.add_le_add_left ?_ _)
  exact Nat.le_trans (mostD_mono (a := 7 - posI (sortN L) 0) (b := 7) (by omega)) (by decide)
end Go.Proofs.YthfibggbipkmfaaGreat
namespace Go.Proofs.YthfibggbipkmfaaGreat
open Go.RowKit Go.Fb
set_option linter.unusedVariables false
set_option maxRecDepth 100000 in
set_option maxHeartbeats 16000000 in
theorem clean_1 (kd : Int) (x : Nd) (rs : Bool) (sf sp : Value) (B : Nat) (w : World) (hkd : kd = 1) (h : NdIn w B (x, sf, sp)) (hB : B ≤ w.heap.size) (h1 : x.fr.length ≤ 1000000) (h2 : x.pg.length ≤ 1000000) :
    Calls Tryz.prog 85 #[.agg (stA kd x rs sf sp)] w (CleanOut ⟨kd, x, rs⟩ w) := by
  have HKD := Lib.hid hkd
  clear hkd
  obtain ⟨⟨Af, cf, hf1, hf2⟩, ⟨Ap, cp, hp1, hp2⟩⟩ := h
  simp only at hf1 hf2 hp1 hp2
  subst hf1
  subst hp1
  obtain ⟨nf, hnf⟩ : ∃ z, z = x.fr.length := ⟨_, rfl⟩
  obtain ⟨np, hnp⟩ : ∃ z, z = x.pg.length := ⟨_, rfl⟩
  have RP := Lib.hid hp2
  have RF := Lib.hid hf2
  rw [← hnf] at RF h1 ⊢
  rw [← hnp] at RP h2 ⊢
  have HNF := Lib.hid hnf
  have HNP := Lib.hid hnp
  obtain ⟨cs, hcs⟩ : ∃ c, c = cleanS ⟨kd, x, rs⟩ := ⟨_, rfl⟩
  obtain ⟨Q, hQ⟩ : ∃ Q, Q = CleanOut ⟨kd, x, rs⟩ w := ⟨_, rfl⟩
  rw [← hQ]
  have HOUT := Lib.hid (fun (tf tp : Value) (w' : World) (ha : NdIn w' w'.heap.size (cs.nd, tf, tp)) (hb : Fresh w.heap.size tf) (hc : Fresh w.heap.size tp) (hd : Fr w.heap.size [] w w') => (by
    rw [hQ]
    unfold CleanOut
    rw [← hcs]
    exact ⟨tf, tp, rfl, ha, hb, hc, hd⟩ : Q (.returned (.agg (stV cs tf tp))) w'))
  have HCS := Lib.hid hcs
  have b1 := (((Blk.new w 110 (stA kd x rs (.slice Af nf cf) (.slice Ap np cp))).alloc (.cells #[.int .i64 0, .int .i64 0, .int .i64 0, .slice none 0 0, .slice none 0 0, .int .i64 0, .int .i64 0, .int .i64 0, .int .i64 0, .int .i64 0, .int .i64 0, .int .i64 0, .int .i64 0, .int .i64 0, .bool false] 110)).alloc (.cells #[.int .i64 x.id, .int .i64 x.kind, .slice Af nf cf, .slice Ap np cp, .int .i64 x.par, .int .i64 (x.rt 0), .int .i64 (x.rt 1), .int .i64 (x.rt 2), .int .i64 (x.rt 3), .int .i64 (x.rt 4), .int .i64 (x.rt 5), .int .i64 (x.rt 6), .int .i64 (x.rt 7)] 49)).alloc (.cells #[.int .i64 kd, .int .i64 0, .int .i64 0, .slice none 0 0, .slice none 0 0, .int .i64 0, .int .i64 0, .int .i64 0, .int .i64 0, .int .i64 0, .int .i64 0, .int .i64 0, .int .i64 0, .int .i64 0, .bool false] 110)
  have b2 := ((Blk.new (w.alloc (.cells (stA kd x rs (.slice Af nf cf) (.slice Ap np cp)) 110)) 110 #[.int .i64 0, .int .i64 0, .int .i64 0, .slice none 0 0, .slice none 0 0, .int .i64 0, .int .i64 0, .int .i64 0, .int .i64 0, .int .i64 0, .int .i64 0, .int .i64 0, .int .i64 0, .int .i64 0, .bool false]).alloc (.cells #[.int .i64 x.id, .int .i64 x.kind, .slice Af nf cf, .slice Ap np cp, .int .i64 x.par, .int .i64 (x.rt 0), .int .i64 (x.rt 1), .int .i64 (x.rt 2), .int .i64 (x.rt 3), .int .i64 (x.rt 4), .int .i64 (x.rt 5), .int .i64 (x.rt 6), .int .i64 (x.rt 7)] 49)).alloc (.cells #[.int .i64 kd, .int .i64 0, .int .i64 0, .slice none 0 0, .slice none 0 0, .int .i64 0, .int .i64 0, .int .i64 0, .int .i64 0, .int .i64 0, .int .i64 0, .int .i64 0, .int .i64 0, .int .i64 0, .bool false] 110)
  have b3 := (Blk.new ((w.alloc (.cells (stA kd x rs (.slice Af nf cf) (.slice Ap np cp)) 110)).alloc (.cells #[.int .i64 0, .int .i64 0, .int .i64 0, .slice none 0 0, .slice none 0 0, .int .i64 0, .int .i64 0, .int .i64 0, .int .i64 0, .int .i64 0, .int .i64 0, .int .i64 0, .int .i64 0, .int .i64 0, .bool false] 110)) 49 #[.int .i64 x.id, .int .i64 x.kind, .slice Af nf cf, .slice Ap np cp, .int .i64 x.par, .int .i64 (x.rt 0), .int .i64 (x.rt 1), .int .i64 (x.rt 2), .int .i64 (x.rt 3), .int .i64 (x.rt 4), .int .i64 (x.rt 5), .int .i64 (x.rt 6), .int .i64 (x.rt 7)]).alloc (.cells #[.int .i64 kd, .int .i64 0, .int .i64 0, .slice none 0 0, .slice none 0 0, .int .i64 0, .int .i64 0, .int .i64 0, .int .i64 0, .int .i64 0, .int .i64 0, .int .i64 0, .int .i64 0, .int .i64 0, .bool false] 110)
  have b4 := Blk.new (((w.alloc (.cells (stA kd x rs (.slice Af nf cf) (.slice Ap np cp)) 110)).alloc (.cells #[.int .i64 0, .int .i64 0, .int .i64 0, .slice none 0 0, .slice none 0 0, .int .i64 0, .int .i64 0, .int .i64 0, .int .i64 0, .int .i64 0, .int .i64 0, .int .i64 0, .int .i64 0, .int .i64 0, .bool false] 110)).alloc (.cells #[.int .i64 x.id, .int .i64 x.kind, .slice Af nf cf, .slice Ap np cp, .int .i64 x.par, .int .i64 (x.rt 0), .int .i64 (x.rt 1), .int .i64 (x.rt 2), .int .i64 (x.rt 3), .int .i64 (x.rt 4), .int .i64 (x.rt 5), .int .i64 (x.rt 6), .int .i64 (x.rt 7)] 49)) 110 #[.int .i64 kd, .int .i64 0, .int .i64 0, .slice none 0 0, .slice none 0 0, .int .i64 0, .int .i64 0, .int .i64 0, .int .i64 0, .int .i64 0, .int .i64 0, .int .i64 0, .int .i64 0, .int .i64 0, .bool false]
  simp only [World.size_alloc] at b2 b3 b4
  have fA := (((((Fr.refl w.heap.size [] w).alloc (Nat.le_refl _) (.cells (stA kd x rs (.slice Af nf cf) (.slice Ap np cp)) 110)).alloc (by simp) (.cells #[.int .i64 0, .int .i64 0, .int .i64 0, .slice none 0 0, .slice none 0 0, .int .i64 0, .int .i64 0, .int .i64 0, .int .i64 0, .int .i64 0, .int .i64 0, .int .i64 0, .int .i64 0, .int .i64 0, .bool false] 110)).alloc (by simp; omega) (.cells #[.int .i64 x.id, .int .i64 x.kind, .slice Af nf cf, .slice Ap np cp, .int .i64 x.par, .int .i64 (x.rt 0), .int .i64 (x.rt 1), .int .i64 (x.rt 2), .int .i64 (x.rt 3), .int .i64 (x.rt 4), .int .i64 (x.rt 5), .int .i64 (x.rt 6), .int .i64 (x.rt 7)] 49)).alloc (by simp; omega) (.cells #[.int .i64 kd, .int .i64 0, .int .i64 0, .slice none 0 0, .slice none 0 0, .int .i64 0, .int .i64 0, .int .i64 0, .int .i64 0, .int .i64 0, .int .i64 0, .int .i64 0, .int .i64 0, .int .i64 0, .bool false] 110))
  have hsa : ((((w.alloc (.cells (stA kd x rs (.slice Af nf cf) (.slice Ap np cp)) 110)).alloc (.cells #[.int .i64 0, .int .i64 0, .int .i64 0, .slice none 0 0, .slice none 0 0, .int .i64 0, .int .i64 0, .int .i64 0, .int .i64 0, .int .i64 0, .int .i64 0, .int .i64 0, .int .i64 0, .int .i64 0, .bool false] 110)).alloc (.cells #[.int .i64 x.id, .int .i64 x.kind, .slice Af nf cf, .slice Ap np cp, .int .i64 x.par, .int .i64 (x.rt 0), .int .i64 (x.rt 1), .int .i64 (x.rt 2), .int .i64 (x.rt 3), .int .i64 (x.rt 4), .int .i64 (x.rt 5), .int .i64 (x.rt 6), .int .i64 (x.rt 7)] 49)).alloc (.cells #[.int .i64 kd, .int .i64 0, .int .i64 0, .slice none 0 0, .slice none 0 0, .int .i64 0, .int .i64 0, .int .i64 0, .int .i64 0, .int .i64 0, .int .i64 0, .int .i64 0, .int .i64 0, .int .i64 0, .bool false] 110)).heap.size = w.heap.size + 1 + 1 + 1 + 1 := by simp only [World.size_alloc]
  have B1 := Lib.hid b1
  have B2 := Lib.hid b2
  have B3 := Lib.hid b3
  have B4 := Lib.hid b4
  have FA := Lib.hid fA
  have HSA := Lib.hid hsa
  clear hf2 hp2 hnf hnp hcs hQ b1 b2 b3 b4 fA hsa
  go_enter Tryz.func85, Tryz.ntmps85
  go_upto_region 3 with fail
  generalize (((w.alloc (.cells (stA kd x rs (.slice Af nf cf) (.slice Ap np cp)) 110)).alloc (.cells #[.int .i64 0, .int .i64 0, .int .i64 0, .slice none 0 0, .slice none 0 0, .int .i64 0, .int .i64 0, .int .i64 0, .int .i64 0, .int .i64 0, .int .i64 0, .int .i64 0, .int .i64 0, .int .i64 0, .bool false] 110)).alloc (.cells #[.int .i64 x.id, .int .i64 x.kind, .slice Af nf cf, .slice Ap np cp, .int .i64 x.par, .int .i64 (x.rt 0), .int .i64 (x.rt 1), .int .i64 (x.rt 2), .int .i64 (x.rt 3), .int .i64 (x.rt 4), .int .i64 (x.rt 5), .int .i64 (x.rt 6), .int .i64 (x.rt 7)] 49)).alloc (.cells #[.int .i64 kd, .int .i64 0, .int .i64 0, .slice none 0 0, .slice none 0 0, .int .i64 0, .int .i64 0, .int .i64 0, .int .i64 0, .int .i64 0, .int .i64 0, .int .i64 0, .int .i64 0, .int .i64 0, .bool false] 110) = wa at *
  obtain ⟨g, hg⟩ : ∃ g, g = w.heap.size := ⟨_, rfl⟩
  rw [← hg] at B1 B2 B3 B4 HSA
  try rw [← hg]
  have HG := Lib.hid hg
  clear hg
  have k0 := B1.out.cell 0
  have k14 := B1.out.cell 14
  have n0 := B3.out.cell 0
  have n1 := B3.out.cell 1
  have n2 := B3.out.cell 2
  have n3 := B3.out.cell 3
  have n4 := B3.out.cell 4
  have n5 := B3.out.cell 5
  have n6 := B3.out.cell 6
  have n7 := B3.out.cell 7
  have n8 := B3.out.cell 8
  have n9 := B3.out.cell 9
  have n10 := B3.out.cell 10
  have n11 := B3.out.cell 11
  have n12 := B3.out.cell 12
  simp at k0 k14 n0 n1 n2 n3 n4 n5 n6 n7 n8 n9 n10 n11 n12
  have y1 := B4.out.frozen 1
  have y2 := B4.out.frozen 2
  have y3 := B4.out.frozen 3
  have y4 := B4.out.frozen 4
  have y5 := B4.out.frozen 5
  have y6 := B4.out.frozen 6
  have y7 := B4.out.frozen 7
  have y8 := B4.out.frozen 8
  have y9 := B4.out.frozen 9
  have y10 := B4.out.frozen 10
  have y11 := B4.out.frozen 11
  have y12 := B4.out.frozen 12
  have y13 := B4.out.frozen 13
  have y14 := B4.out.frozen 14
  have m1 := B4.out.cell 1
  have m2 := B4.out.cell 2
  have m3 := B4.out.cell 3
  have m4 := B4.out.cell 4
  have m5 := B4.out.cell 5
  have m6 := B4.out.cell 6
  have m7 := B4.out.cell 7
  have m8 := B4.out.cell 8
  have m9 := B4.out.cell 9
  have m10 := B4.out.cell 10
  have m11 := B4.out.cell 11
  have m12 := B4.out.cell 12
  have m13 := B4.out.cell 13
  have m14 := B4.out.cell 14
  simp at m1 m2 m3 m4 m5 m6 m7 m8 m9 m10 m11 m12 m13 m14
  by_cases e1 : kd = 1
  · subst e1
    obtain rfl : cs = ⟨1, ⟨x.id, 0, 0, [], x.pg, fun _ => 0⟩, rs⟩ := by
      rw [HCS.out]
      unfold cleanS
      simp
    clear HCS
    have HCL := Lib.hid (fun (wx : World) (hx : Fr wa.heap.size [] wa wx) => (by
      have FX := FA.out.trans (hx.mono (B' := w.heap.size) (L' := []) FA.out.size (by simp))
      exact pclone_any Ap np cp B x.pg wx HNP.out h2 (RP.out.fr FX hB (by simp)) (Nat.le_trans hB FX.size) : Calls Tryz.prog 101 #[.slice Ap np cp] wx fun e w' => ∃ A' c', e = .returned (.slice A' np c') ∧ w'.ownsRow wx.heap.size 121 2 (.slice A' np c') np (cellsI x.pg) ∧ Fr wx.heap.size [] wx w'))
    have SF := Lib.hid (fun (w : World) (h : Fr wa.heap.size [g + 1 + 1 + 1] wa w) => (⟨(B3.out.fr h B3.out.lt (by simp)).cell 0, (B3.out.fr h B3.out.lt (by simp)).cell 3, (B1.out.fr h B1.out.lt (by simp; omega)).cell 14⟩ : w.cell? ⟨g + 1 + 1, 0, none⟩ = some (.int .i64 x.id) ∧ w.cell? ⟨g + 1 + 1, 3, none⟩ = some (.slice Ap np cp) ∧ w.cell? ⟨g, 14, none⟩ = some (.bool rs)))
    have INV := Lib.hid ((Fr.refl wa.heap.size [g + 1 + 1 + 1] wa).drew)
    have IN0 := Lib.hid ((Fr.refl wa.heap.size [] wa).drew)
    go_wp2_with fail
    clear k0 k14 n0 n1 n2 n3 n4 n5 n6 n7 n8 n9 n10 n11 n12 y1 m1 y2 m2 y3 m3 y4 m4 y5 m5 y6 m6 y7 m7 y8 m8 y9 m9 y10 m10 y11 m11 y12 m12 y13 m13 y14 m14
    refine wp_region_held_drew (S := fun w => w.cell? ⟨g + 1 + 1, 0, none⟩ = some (.int .i64 x.id) ∧ w.cell? ⟨g + 1 + 1, 3, none⟩ = some (.slice Ap np cp) ∧ w.cell? ⟨g, 14, none⟩ = some (.bool rs)) (by kernel_rfl) (SF.out _ INV.out) (fun hHeld => ?_)
    refine wpAnyH_take (i := 0) (oi := { dst := some 15, op := Op.fieldAddr 49 (Operand.tmp 3) 0, type := 0, pos := "plan.go:27", after := #[], guard := none }) (v := ?_) rfl (by kernel_rfl) (by kernel_rfl) (by kernel_rfl) (fun _ _ _ h => h) (Or.inl ⟨by rfl, ?_⟩) hHeld ?_
    rotate_left
    · intro w hSw; (try dsimp only at hSw); go_simp; (try with_reducible rfl)
    simp only [Act.put, List.setIfInBounds_toArray, List.set_cons_zero, List.set_cons_succ]
    refine wpAnyH_take (i := 1) (oi := { dst := some 16, op := Op.load 3 (Operand.tmp 15), type := 3, pos := "plan.go:27", after := #[{ on := 0, ground := Ground.data }], guard := none }) (v := ?_) rfl (by kernel_rfl) (by kernel_rfl) (by kernel_rfl) (fun _ _ _ h => h) (Or.inl ⟨by rfl, ?_⟩) hHeld ?_
    rotate_left
    · intro w hSw; (try dsimp only at hSw); go_simp; (try with_reducible rfl)
    simp only [Act.put, List.setIfInBounds_toArray, List.set_cons_zero, List.set_cons_succ]
    refine wpAnyH_take (i := 2) (oi := { dst := some 17, op := Op.fieldAddr 49 (Operand.tmp 3) 3, type := 0, pos := "plan.go:27", after := #[], guard := none }) (v := ?_) rfl (by kernel_rfl) (by kernel_rfl) (by kernel_rfl) (fun _ _ _ h => h) (Or.inl ⟨by rfl, ?_⟩) hHeld ?_
    rotate_left
    · intro w hSw; (try dsimp only at hSw); go_simp; (try with_reducible rfl)
    simp only [Act.put, List.setIfInBounds_toArray, List.set_cons_zero, List.set_cons_succ]
    refine wpAnyH_take (i := 3) (oi := { dst := some 18, op := Op.load 46 (Operand.tmp 17), type := 46, pos := "plan.go:27", after := #[{ on := 2, ground := Ground.data }], guard := none }) (v := ?_) rfl (by kernel_rfl) (by kernel_rfl) (by kernel_rfl) (fun _ _ _ h => h) (Or.inl ⟨by rfl, ?_⟩) hHeld ?_
    rotate_left
    · intro w hSw; (try dsimp only at hSw); go_simp; (try with_reducible rfl)
    simp only [Act.put, List.setIfInBounds_toArray, List.set_cons_zero, List.set_cons_succ]
    refine wpAnyH_take (i := 6) (oi := { dst := some 21, op := Op.fieldAddr 110 (Operand.tmp 1) 2, type := 0, pos := "plan.go:27", after := #[{ on := 9, ground := Ground.gcOnly Departure.lateStores }], guard := none }) (v := ?_) rfl (by kernel_rfl) (by kernel_rfl) (by kernel_rfl) (fun _ _ _ h => h) (Or.inl ⟨by rfl, ?_⟩) hHeld ?_
    rotate_left
    · intro w hSw; (try dsimp only at hSw); go_simp; (try with_reducible rfl)
    simp only [Act.put, List.setIfInBounds_toArray, List.set_cons_zero, List.set_cons_succ]
    refine wpAnyH_take (i := 7) (oi := { dst := some 22, op := Op.load 4 (Operand.tmp 21), type := 4, pos := "plan.go:27", after := #[{ on := 6, ground := Ground.data }, { on := 9, ground := Ground.gcOnly Departure.lateStores }], guard := none }) (v := ?_) rfl (by kernel_rfl) (by kernel_rfl) (by kernel_rfl) (fun _ _ _ h => h) (Or.inl ⟨by rfl, ?_⟩) hHeld ?_
    rotate_left
    · intro w hSw; (try dsimp only at hSw); go_simp; (try with_reducible rfl)
    simp only [Act.put, List.setIfInBounds_toArray, List.set_cons_zero, List.set_cons_succ]
    refine wpAnyH_ready (rs := [4]) (by kernel_rfl) (by simp) ?_
    refine AllReadyH.cons (o := { dst := some 19, op := Op.call { callee := Callee.value (Operand.func 101), args := #[Operand.tmp 18], argTypes := #[46] }, type := 46, pos := "plan.go:27", after := #[{ on := 3, ground := Ground.data }], guard := none }) rfl (fun K hK => ?_) AllReadyH.nil
    rw [if_pos (by rfl)]
    go_simp
    refine (HCL.out _ IN0.out).mono ?_
    rintro e w' ⟨A1, c1, rfl, ho, hf⟩
    have HO := Lib.hid (ownsRow_base ho IN0.out.size)
    have IN0 := Lib.hid (IN0.out.trans (hf.mono IN0.out.size (by simp)))
    have INV := Lib.hid (INV.out.trans (hf.mono INV.out.size (by simp)))
    clear ho hf
    refine hK.out _ _ (SF.out _ INV.out) (fun hHeld => ?_)
    clear hK K
    try simp only [Act.put, List.setIfInBounds_toArray, List.set_cons_zero, List.set_cons_succ]
    refine wpAnyH_take (i := 5) (oi := { dst := some 20, op := Op.build 49 #[(0, Operand.tmp 16), (3, Operand.tmp 19)], type := 49, pos := "plan.go:27", after := #[{ on := 1, ground := Ground.data }, { on := 4, ground := Ground.data }], guard := none }) (v := ?_) rfl (by kernel_rfl) (by kernel_rfl) (by kernel_rfl) (fun _ _ _ h => h) (Or.inl ⟨by rfl, ?_⟩) hHeld ?_
    rotate_left
    · intro w hSw; (try dsimp only at hSw); go_simp; (try with_reducible rfl)
    simp only [Act.put, List.setIfInBounds_toArray, List.set_cons_zero, List.set_cons_succ]
    refine wpAnyH_take (i := 8) (oi := { dst := some 23, op := Op.fieldAddr 110 (Operand.tmp 4) 1, type := 0, pos := "plan.go:27", after := #[{ on := 0, ground := Ground.phase }, { on := 1, ground := Ground.phase }, { on := 2, ground := Ground.phase }, { on := 3, ground := Ground.phase }, { on := 4, ground := Ground.phase }, { on := 5, ground := Ground.phase }, { on := 6, ground := Ground.textOnly Departure.lateStores }, { on := 7, ground := Ground.textOnly Departure.lateStores }], guard := none }) (v := ?_) rfl (by kernel_rfl) (by kernel_rfl) (by kernel_rfl) (fun _ _ _ h => h) (Or.inl ⟨by rfl, ?_⟩) hHeld ?_
    rotate_left
    · intro w hSw; (try dsimp only at hSw); go_simp; (try with_reducible rfl)
    simp only [Act.put, List.setIfInBounds_toArray, List.set_cons_zero, List.set_cons_succ]
    refine wpAnyH_ready (rs := [9]) (by kernel_rfl) (by simp) ?_
    refine AllReadyH.cons (o := { dst := none, op := Op.store 49 (Operand.tmp 23) (Operand.tmp 20), type := 0, pos := "plan.go:27", after := #[{ on := 8, ground := Ground.data }, { on := 5, ground := Ground.data }, { on := 4, ground := Ground.chain }, { on := 0, ground := Ground.phase }, { on := 1, ground := Ground.phase }, { on := 2, ground := Ground.phase }, { on := 3, ground := Ground.phase }, { on := 4, ground := Ground.phase }, { on := 5, ground := Ground.phase }, { on := 6, ground := Ground.textOnly Departure.lateStores }, { on := 7, ground := Ground.textOnly Departure.lateStores }], guard := none }) rfl (fun K hK => ?_) AllReadyH.nil
    rw [if_pos (by rfl)]
    have B4' := B4.out.fr IN0.out B4.out.lt (by simp)
    have y1 := B4'.frozen 1
    have y2 := B4'.frozen 2
    have y3 := B4'.frozen 3
    have y4 := B4'.frozen 4
    have y5 := B4'.frozen 5
    have y6 := B4'.frozen 6
    have y7 := B4'.frozen 7
    have y8 := B4'.frozen 8
    have y9 := B4'.frozen 9
    have y10 := B4'.frozen 10
    have y11 := B4'.frozen 11
    have y12 := B4'.frozen 12
    have y13 := B4'.frozen 13
    have m1 := B4'.cell 1
    have m2 := B4'.cell 2
    have m3 := B4'.cell 3
    have m4 := B4'.cell 4
    have m5 := B4'.cell 5
    have m6 := B4'.cell 6
    have m7 := B4'.cell 7
    have m8 := B4'.cell 8
    have m9 := B4'.cell 9
    have m10 := B4'.cell 10
    have m11 := B4'.cell 11
    have m12 := B4'.cell 12
    have m13 := B4'.cell 13
    simp at m1 m2 m3 m4 m5 m6 m7 m8 m9 m10 m11 m12 m13
    go_simp
    have INV1 := Lib.hid (fr_setL (g := g + 1 + 1 + 1) (.inr (by simp)) ([.int .i64 x.id, .int .i64 0, (.slice none 0 0), (.slice A1 np c1), .int .i64 0, .int .i64 0, .int .i64 0, .int .i64 0, .int .i64 0, .int .i64 0, .int .i64 0, .int .i64 0, .int .i64 0]) 1 INV.out)
    have INV := INV1
    clear y1 m1 y2 m2 y3 m3 y4 m4 y5 m5 y6 m6 y7 m7 y8 m8 y9 m9 y10 m10 y11 m11 y12 m12 y13 m13
    refine hK.out _ _ (SF.out _ INV.out) (fun hHeld => ?_)
    clear hK K
    try simp only [Act.put, List.setIfInBounds_toArray, List.set_cons_zero, List.set_cons_succ]
    refine wpAnyH_take (i := 10) (oi := { dst := some 24, op := Op.fieldAddr 110 (Operand.tmp 4) 2, type := 0, pos := "plan.go:27", after := #[{ on := 0, ground := Ground.phase }, { on := 1, ground := Ground.phase }, { on := 2, ground := Ground.phase }, { on := 3, ground := Ground.phase }, { on := 4, ground := Ground.phase }, { on := 5, ground := Ground.phase }, { on := 6, ground := Ground.phase }, { on := 7, ground := Ground.phase }, { on := 8, ground := Ground.phase }, { on := 9, ground := Ground.phase }], guard := none }) (v := ?_) rfl (by kernel_rfl) (by kernel_rfl) (by kernel_rfl) (fun _ _ _ h => h) (Or.inl ⟨by rfl, ?_⟩) hHeld ?_
    rotate_left
    · intro w hSw; (try dsimp only at hSw); go_simp; (try with_reducible rfl)
    simp only [Act.put, List.setIfInBounds_toArray, List.set_cons_zero, List.set_cons_succ]
    refine wpAnyH_ready (rs := [11]) (by kernel_rfl) (by simp) ?_
    refine AllReadyH.cons (o := { dst := none, op := Op.store 4 (Operand.tmp 24) (Operand.tmp 22), type := 0, pos := "plan.go:27", after := #[{ on := 10, ground := Ground.data }, { on := 7, ground := Ground.data }, { on := 9, ground := Ground.chain }, { on := 0, ground := Ground.phase }, { on := 1, ground := Ground.phase }, { on := 2, ground := Ground.phase }, { on := 3, ground := Ground.phase }, { on := 4, ground := Ground.phase }, { on := 5, ground := Ground.phase }, { on := 6, ground := Ground.phase }, { on := 7, ground := Ground.phase }, { on := 8, ground := Ground.phase }, { on := 9, ground := Ground.phase }], guard := none }) rfl (fun K hK => ?_) AllReadyH.nil
    rw [if_pos (by rfl)]
    have b5 := blk_setL ([.int .i64 x.id, .int .i64 0, (.slice none 0 0), (.slice A1 np c1), .int .i64 0, .int .i64 0, .int .i64 0, .int .i64 0, .int .i64 0, .int .i64 0, .int .i64 0, .int .i64 0, .int .i64 0]) 1 (B4.out.fr IN0.out B4.out.lt (by simp))
    simp only [putL, List.setIfInBounds_toArray, List.set_cons_succ, List.set_cons_zero, Nat.reduceAdd] at b5
    have y14 := b5.frozen 14
    have m14 := b5.cell 14
    simp at m14
    simp only [setL, Nat.reduceAdd] at y14 m14
    go_simp
    have INV := Lib.hid (INV1.out.setCell (p := ⟨g + 1 + 1 + 1, 14, none⟩) (.inr (by simp)) (.bool rs))
    clear b5 y14 m14
    refine hK.out _ _ (SF.out _ INV.out) (fun hHeld => ?_)
    clear hK K
    try simp only [Act.put, List.setIfInBounds_toArray, List.set_cons_zero, List.set_cons_succ]
    refine wpAnyH_done (by kernel_rfl) ?_ _
    have B45 := Lib.hid (B4.out.fr IN0.out B4.out.lt (by simp))
    have B25 := Lib.hid (B2.out.fr IN0.out B2.out.lt (by simp))
    have F5 := Lib.hid (FA.out.trans (IN0.out.mono (B' := w.heap.size) (L' := []) FA.out.size (by simp)))
    clear INV SF hHeld HCL
    go_upto_region 15 with fail
    generalize hwz : World.setCell _ _ _ = wz
    have d4 := (blk_setL ([.int .i64 x.id, .int .i64 0, (.slice none 0 0), (.slice A1 np c1), .int .i64 0, .int .i64 0, .int .i64 0, .int .i64 0, .int .i64 0, .int .i64 0, .int .i64 0, .int .i64 0, .int .i64 0]) 1 B45.out).set_ 14 (.bool rs)
    simp only [putL, List.setIfInBounds_toArray, List.set_cons_succ, List.set_cons_zero, Nat.reduceAdd] at d4
    have d2 := (far_setL (g := g + 1 + 1 + 1) (by omega) ([.int .i64 x.id, .int .i64 0, (.slice none 0 0), (.slice A1 np c1), .int .i64 0, .int .i64 0, .int .i64 0, .int .i64 0, .int .i64 0, .int .i64 0, .int .i64 0, .int .i64 0, .int .i64 0]) 1 B25.out).far (p := ⟨g + 1 + 1 + 1, 14, none⟩) (by simp) (.bool rs)
    have fz := (fr_setL (g := g + 1 + 1 + 1) (.inl (by have := HG.out; omega)) ([.int .i64 x.id, .int .i64 0, (.slice none 0 0), (.slice A1 np c1), .int .i64 0, .int .i64 0, .int .i64 0, .int .i64 0, .int .i64 0, .int .i64 0, .int .i64 0, .int .i64 0, .int .i64 0]) 1 F5.out).setCell (p := ⟨g + 1 + 1 + 1, 14, none⟩) (.inl (by have := HG.out; simp; omega)) (.bool rs)
    have fs := (fr_setL (g := g + 1 + 1 + 1) (.inr (by simp)) ([.int .i64 x.id, .int .i64 0, (.slice none 0 0), (.slice A1 np c1), .int .i64 0, .int .i64 0, .int .i64 0, .int .i64 0, .int .i64 0, .int .i64 0, .int .i64 0, .int .i64 0, .int .i64 0]) 1 (Fr.refl w'.heap.size [g + 1 + 1 + 1] w')).setCell (p := ⟨g + 1 + 1 + 1, 14, none⟩) (.inr (by simp)) (.bool rs)
    have D4 := Lib.hid (by rw [← hwz]; exact d4 : Blk wz (g + 1 + 1 + 1) 110 _)
    have D2 := Lib.hid (by rw [← hwz]; exact d2 : Blk wz (g + 1) 110 _)
    have FZ := Lib.hid (by rw [← hwz]; exact fz : Fr w.heap.size [] w wz)
    have FS := Lib.hid (by rw [← hwz]; exact fs : Fr w'.heap.size [g + 1 + 1 + 1] w' wz)
    clear hwz d4 d2 fz fs
    have OWN := Lib.hid (ownsRow_fr HO.out FS.out (fun q hq => ⟨(HO.out.lt q hq).2, by have := (HO.out.lt q hq).1; have := HSA.out; simp; omega⟩))
    have NIN := Lib.hid (show NdIn wz wz.heap.size ((⟨x.id, 0, 0, [], x.pg, fun _ => 0⟩ : Nd), .slice none 0 0, .slice A1 np c1) from ⟨⟨none, 0, rfl, Reads.none_⟩, ⟨A1, c1, by rw [HNP.out], by rw [← HNP.out]; exact Reads.of_own OWN.out⟩⟩)
    have FP := Lib.hid (fresh_own HO.out (b := g + 4) (by have := HSA.out; omega))
    have FF := Lib.hid (fresh_nil (g + 4))
    clear FS HO OWN IN0
    have q0 := D4.out.cell 0
    have q1 := D4.out.cell 1
    have q2 := D4.out.cell 2
    have q3 := D4.out.cell 3
    have q4 := D4.out.cell 4
    have q5 := D4.out.cell 5
    have q6 := D4.out.cell 6
    have q7 := D4.out.cell 7
    have q8 := D4.out.cell 8
    have q9 := D4.out.cell 9
    have q10 := D4.out.cell 10
    have q11 := D4.out.cell 11
    have q12 := D4.out.cell 12
    have q13 := D4.out.cell 13
    have q14 := D4.out.cell 14
    simp at q0 q1 q2 q3 q4 q5 q6 q7 q8 q9 q10 q11 q12 q13 q14
    have z0 := D2.out.frozen 0
    have z1 := D2.out.frozen 1
    have z2 := D2.out.frozen 2
    have z3 := D2.out.frozen 3
    have z4 := D2.out.frozen 4
    have z5 := D2.out.frozen 5
    have z6 := D2.out.frozen 6
    have z7 := D2.out.frozen 7
    have z8 := D2.out.frozen 8
    have z9 := D2.out.frozen 9
    have z10 := D2.out.frozen 10
    have z11 := D2.out.frozen 11
    have z12 := D2.out.frozen 12
    have z13 := D2.out.frozen 13
    have z14 := D2.out.frozen 14
    have s0 := D2.out.cell 0
    have s1 := D2.out.cell 1
    have s2 := D2.out.cell 2
    have s3 := D2.out.cell 3
    have s4 := D2.out.cell 4
    have s5 := D2.out.cell 5
    have s6 := D2.out.cell 6
    have s7 := D2.out.cell 7
    have s8 := D2.out.cell 8
    have s9 := D2.out.cell 9
    have s10 := D2.out.cell 10
    have s11 := D2.out.cell 11
    have s12 := D2.out.cell 12
    have s13 := D2.out.cell 13
    have s14 := D2.out.cell 14
    simp at s0 s1 s2 s3 s4 s5 s6 s7 s8 s9 s10 s11 s12 s13 s14
    go_wp2_with fail
    have be := blk_setL ([.int .i64 1, .int .i64 x.id, .int .i64 0, (.slice none 0 0), (.slice A1 np c1), .int .i64 0, .int .i64 (0 : Int), .int .i64 (0 : Int), .int .i64 (0 : Int), .int .i64 (0 : Int), .int .i64 (0 : Int), .int .i64 (0 : Int), .int .i64 (0 : Int), .int .i64 (0 : Int), .bool rs]) 0 D2.out
    simp only [putL, List.setIfInBounds_toArray, List.set_cons_succ, List.set_cons_zero, Nat.reduceAdd] at be
    have BE := Lib.hid be
    clear be
    have fe := fr_setL (g := g + 1) (.inr (by simp)) ([.int .i64 1, .int .i64 x.id, .int .i64 0, (.slice none 0 0), (.slice A1 np c1), .int .i64 0, .int .i64 (0 : Int), .int .i64 (0 : Int), .int .i64 (0 : Int), .int .i64 (0 : Int), .int .i64 (0 : Int), .int .i64 (0 : Int), .int .i64 (0 : Int), .int .i64 (0 : Int), .bool rs]) 0 (Fr.refl wz.heap.size [g + 1] wz)
    have FE := Lib.hid (FZ.out.trans (fe.mono (B' := w.heap.size) (L' := []) FZ.out.size (by intro k hk hlt; have := HG.out; simp at hk; omega)))
    have NE := Lib.hid ((ndin_fresh NIN.out FF.out FP.out fe (Nat.le_refl _) (by intro k hk; simp at hk; omega)).more fe.size)
    refine bodyPost_ret (results_cell_row rfl _ _ (g + 1) 110 (stV (⟨1, ⟨x.id, 0, 0, [], x.pg, fun _ => 0⟩, rs⟩ : Stp) (.slice none 0 0) (.slice A1 np c1)) (0, 0) _ rfl BE.out Tryz.underlying110 rfl (by kernel_rfl)) rfl (HOUT.out (.slice none 0 0) (.slice A1 np c1) _ NE.out (fresh_le FF.out (by have := HG.out; omega)) (fresh_le FP.out (by have := HG.out; omega)) FE.out)
  · exact absurd HKD.out e1
set_option maxRecDepth 100000 in
set_option maxHeartbeats 16000000 in
theorem clean_5 (kd : Int) (x : Nd) (rs : Bool) (sf sp : Value) (B : Nat) (w : World) (hkd : kd = 5) (h : NdIn w B (x, sf, sp)) (hB : B ≤ w.heap.size) (h1 : x.fr.length ≤ 1000000) (h2 : x.pg.length ≤ 1000000) :
    Calls Tryz.prog 85 #[.agg (stA kd x rs sf sp)] w (CleanOut ⟨kd, x, rs⟩ w) := by
  have HKD := Lib.hid hkd
  clear hkd
  obtain ⟨⟨Af, cf, hf1, hf2⟩, ⟨Ap, cp, hp1, hp2⟩⟩ := h
  simp only at hf1 hf2 hp1 hp2
  subst hf1
  subst hp1
  obtain ⟨nf, hnf⟩ : ∃ z, z = x.fr.length := ⟨_, rfl⟩
  obtain ⟨np, hnp⟩ : ∃ z, z = x.pg.length := ⟨_, rfl⟩
  have RP := Lib.hid hp2
  have RF := Lib.hid hf2
  rw [← hnf] at RF h1 ⊢
  rw [← hnp] at RP h2 ⊢
  have HNF := Lib.hid hnf
  have HNP := Lib.hid hnp
  obtain ⟨cs, hcs⟩ : ∃ c, c = cleanS ⟨kd, x, rs⟩ := ⟨_, rfl⟩
  obtain ⟨Q, hQ⟩ : ∃ Q, Q = CleanOut ⟨kd, x, rs⟩ w := ⟨_, rfl⟩
  rw [← hQ]
  have HOUT := Lib.hid (fun (tf tp : Value) (w' : World) (ha : NdIn w' w'.heap.size (cs.nd, tf, tp)) (hb : Fresh w.heap.size tf) (hc : Fresh w.heap.size tp) (hd : Fr w.heap.size [] w w') => (by
    rw [hQ]
    unfold CleanOut
    rw [← hcs]
    exact ⟨tf, tp, rfl, ha, hb, hc, hd⟩ : Q (.returned (.agg (stV cs tf tp))) w'))
  have HCS := Lib.hid hcs
  have b1 := (((Blk.new w 110 (stA kd x rs (.slice Af nf cf) (.slice Ap np cp))).alloc (.cells #[.int .i64 0, .int .i64 0, .int .i64 0, .slice none 0 0, .slice none 0 0, .int .i64 0, .int .i64 0, .int .i64 0, .int .i64 0, .int .i64 0, .int .i64 0, .int .i64 0, .int .i64 0, .int .i64 0, .bool false] 110)).alloc (.cells #[.int .i64 x.id, .int .i64 x.kind, .slice Af nf cf, .slice Ap np cp, .int .i64 x.par, .int .i64 (x.rt 0), .int .i64 (x.rt 1), .int .i64 (x.rt 2), .int .i64 (x.rt 3), .int .i64 (x.rt 4), .int .i64 (x.rt 5), .int .i64 (x.rt 6), .int .i64 (x.rt 7)] 49)).alloc (.cells #[.int .i64 kd, .int .i64 0, .int .i64 0, .slice none 0 0, .slice none 0 0, .int .i64 0, .int .i64 0, .int .i64 0, .int .i64 0, .int .i64 0, .int .i64 0, .int .i64 0, .int .i64 0, .int .i64 0, .bool false] 110)
  have b2 := ((Blk.new (w.alloc (.cells (stA kd x rs (.slice Af nf cf) (.slice Ap np cp)) 110)) 110 #[.int .i64 0, .int .i64 0, .int .i64 0, .slice none 0 0, .slice none 0 0, .int .i64 0, .int .i64 0, .int .i64 0, .int .i64 0, .int .i64 0, .int .i64 0, .int .i64 0, .int .i64 0, .int .i64 0, .bool false]).alloc (.cells #[.int .i64 x.id, .int .i64 x.kind, .slice Af nf cf, .slice Ap np cp, .int .i64 x.par, .int .i64 (x.rt 0), .int .i64 (x.rt 1), .int .i64 (x.rt 2), .int .i64 (x.rt 3), .int .i64 (x.rt 4), .int .i64 (x.rt 5), .int .i64 (x.rt 6), .int .i64 (x.rt 7)] 49)).alloc (.cells #[.int .i64 kd, .int .i64 0, .int .i64 0, .slice none 0 0, .slice none 0 0, .int .i64 0, .int .i64 0, .int .i64 0, .int .i64 0, .int .i64 0, .int .i64 0, .int .i64 0, .int .i64 0, .int .i64 0, .bool false] 110)
  have b3 := (Blk.new ((w.alloc (.cells (stA kd x rs (.slice Af nf cf) (.slice Ap np cp)) 110)).alloc (.cells #[.int .i64 0, .int .i64 0, .int .i64 0, .slice none 0 0, .slice none 0 0, .int .i64 0, .int .i64 0, .int .i64 0, .int .i64 0, .int .i64 0, .int .i64 0, .int .i64 0, .int .i64 0, .int .i64 0, .bool false] 110)) 49 #[.int .i64 x.id, .int .i64 x.kind, .slice Af nf cf, .slice Ap np cp, .int .i64 x.par, .int .i64 (x.rt 0), .int .i64 (x.rt 1), .int .i64 (x.rt 2), .int .i64 (x.rt 3), .int .i64 (x.rt 4), .int .i64 (x.rt 5), .int .i64 (x.rt 6), .int .i64 (x.rt 7)]).alloc (.cells #[.int .i64 kd, .int .i64 0, .int .i64 0, .slice none 0 0, .slice none 0 0, .int .i64 0, .int .i64 0, .int .i64 0, .int .i64 0, .int .i64 0, .int .i64 0, .int .i64 0, .int .i64 0, .int .i64 0, .bool false] 110)
  have b4 := Blk.new (((w.alloc (.cells (stA kd x rs (.slice Af nf cf) (.slice Ap np cp)) 110)).alloc (.cells #[.int .i64 0, .int .i64 0, .int .i64 0, .slice none 0 0, .slice none 0 0, .int .i64 0, .int .i64 0, .int .i64 0, .int .i64 0, .int .i64 0, .int .i64 0, .int .i64 0, .int .i64 0, .int .i64 0, .bool false] 110)).alloc (.cells #[.int .i64 x.id, .int .i64 x.kind, .slice Af nf cf, .slice Ap np cp, .int .i64 x.par, .int .i64 (x.rt 0), .int .i64 (x.rt 1), .int .i64 (x.rt 2), .int .i64 (x.rt 3), .int .i64 (x.rt 4), .int .i64 (x.rt 5), .int .i64 (x.rt 6), .int .i64 (x.rt 7)] 49)) 110 #[.int .i64 kd, .int .i64 0, .int .i64 0, .slice none 0 0, .slice none 0 0, .int .i64 0, .int .i64 0, .int .i64 0, .int .i64 0, .int .i64 0, .int .i64 0, .int .i64 0, .int .i64 0, .int .i64 0, .bool false]
  simp only [World.size_alloc] at b2 b3 b4
  have fA := (((((Fr.refl w.heap.size [] w).alloc (Nat.le_refl _) (.cells (stA kd x rs (.slice Af nf cf) (.slice Ap np cp)) 110)).alloc (by simp) (.cells #[.int .i64 0, .int .i64 0, .int .i64 0, .slice none 0 0, .slice none 0 0, .int .i64 0, .int .i64 0, .int .i64 0, .int .i64 0, .int .i64 0, .int .i64 0, .int .i64 0, .int .i64 0, .int .i64 0, .bool false] 110)).alloc (by simp; omega) (.cells #[.int .i64 x.id, .int .i64 x.kind, .slice Af nf cf, .slice Ap np cp, .int .i64 x.par, .int .i64 (x.rt 0), .int .i64 (x.rt 1), .int .i64 (x.rt 2), .int .i64 (x.rt 3), .int .i64 (x.rt 4), .int .i64 (x.rt 5), .int .i64 (x.rt 6), .int .i64 (x.rt 7)] 49)).alloc (by simp; omega) (.cells #[.int .i64 kd, .int .i64 0, .int .i64 0, .slice none 0 0, .slice none 0 0, .int .i64 0, .int .i64 0, .int .i64 0, .int .i64 0, .int .i64 0, .int .i64 0, .int .i64 0, .int .i64 0, .int .i64 0, .bool false] 110))
  have hsa : ((((w.alloc (.cells (stA kd x rs (.slice Af nf cf) (.slice Ap np cp)) 110)).alloc (.cells #[.int .i64 0, .int .i64 0, .int .i64 0, .slice none 0 0, .slice none 0 0, .int .i64 0, .int .i64 0, .int .i64 0, .int .i64 0, .int .i64 0, .int .i64 0, .int .i64 0, .int .i64 0, .int .i64 0, .bool false] 110)).alloc (.cells #[.int .i64 x.id, .int .i64 x.kind, .slice Af nf cf, .slice Ap np cp, .int .i64 x.par, .int .i64 (x.rt 0), .int .i64 (x.rt 1), .int .i64 (x.rt 2), .int .i64 (x.rt 3), .int .i64 (x.rt 4), .int .i64 (x.rt 5), .int .i64 (x.rt 6), .int .i64 (x.rt 7)] 49)).alloc (.cells #[.int .i64 kd, .int .i64 0, .int .i64 0, .slice none 0 0, .slice none 0 0, .int .i64 0, .int .i64 0, .int .i64 0, .int .i64 0, .int .i64 0, .int .i64 0, .int .i64 0, .int .i64 0, .int .i64 0, .bool false] 110)).heap.size = w.heap.size + 1 + 1 + 1 + 1 := by simp only [World.size_alloc]
  have B1 := Lib.hid b1
  have B2 := Lib.hid b2
  have B3 := Lib.hid b3
  have B4 := Lib.hid b4
  have FA := Lib.hid fA
  have HSA := Lib.hid hsa
  clear hf2 hp2 hnf hnp hcs hQ b1 b2 b3 b4 fA hsa
  go_enter Tryz.func85, Tryz.ntmps85
  go_upto_region 3 with fail
  generalize (((w.alloc (.cells (stA kd x rs (.slice Af nf cf) (.slice Ap np cp)) 110)).alloc (.cells #[.int .i64 0, .int .i64 0, .int .i64 0, .slice none 0 0, .slice none 0 0, .int .i64 0, .int .i64 0, .int .i64 0, .int .i64 0, .int .i64 0, .int .i64 0, .int .i64 0, .int .i64 0, .int .i64 0, .bool false] 110)).alloc (.cells #[.int .i64 x.id, .int .i64 x.kind, .slice Af nf cf, .slice Ap np cp, .int .i64 x.par, .int .i64 (x.rt 0), .int .i64 (x.rt 1), .int .i64 (x.rt 2), .int .i64 (x.rt 3), .int .i64 (x.rt 4), .int .i64 (x.rt 5), .int .i64 (x.rt 6), .int .i64 (x.rt 7)] 49)).alloc (.cells #[.int .i64 kd, .int .i64 0, .int .i64 0, .slice none 0 0, .slice none 0 0, .int .i64 0, .int .i64 0, .int .i64 0, .int .i64 0, .int .i64 0, .int .i64 0, .int .i64 0, .int .i64 0, .int .i64 0, .bool false] 110) = wa at *
  obtain ⟨g, hg⟩ : ∃ g, g = w.heap.size := ⟨_, rfl⟩
  rw [← hg] at B1 B2 B3 B4 HSA
  try rw [← hg]
  have HG := Lib.hid hg
  clear hg
  have k0 := B1.out.cell 0
  have k14 := B1.out.cell 14
  have n0 := B3.out.cell 0
  have n1 := B3.out.cell 1
  have n2 := B3.out.cell 2
  have n3 := B3.out.cell 3
  have n4 := B3.out.cell 4
  have n5 := B3.out.cell 5
  have n6 := B3.out.cell 6
  have n7 := B3.out.cell 7
  have n8 := B3.out.cell 8
  have n9 := B3.out.cell 9
  have n10 := B3.out.cell 10
  have n11 := B3.out.cell 11
  have n12 := B3.out.cell 12
  simp at k0 k14 n0 n1 n2 n3 n4 n5 n6 n7 n8 n9 n10 n11 n12
  have y1 := B4.out.frozen 1
  have y2 := B4.out.frozen 2
  have y3 := B4.out.frozen 3
  have y4 := B4.out.frozen 4
  have y5 := B4.out.frozen 5
  have y6 := B4.out.frozen 6
  have y7 := B4.out.frozen 7
  have y8 := B4.out.frozen 8
  have y9 := B4.out.frozen 9
  have y10 := B4.out.frozen 10
  have y11 := B4.out.frozen 11
  have y12 := B4.out.frozen 12
  have y13 := B4.out.frozen 13
  have y14 := B4.out.frozen 14
  have m1 := B4.out.cell 1
  have m2 := B4.out.cell 2
  have m3 := B4.out.cell 3
  have m4 := B4.out.cell 4
  have m5 := B4.out.cell 5
  have m6 := B4.out.cell 6
  have m7 := B4.out.cell 7
  have m8 := B4.out.cell 8
  have m9 := B4.out.cell 9
  have m10 := B4.out.cell 10
  have m11 := B4.out.cell 11
  have m12 := B4.out.cell 12
  have m13 := B4.out.cell 13
  have m14 := B4.out.cell 14
  simp at m1 m2 m3 m4 m5 m6 m7 m8 m9 m10 m11 m12 m13 m14
  by_cases e5 : kd = 5
  · subst e5
    obtain rfl : cs = ⟨5, ⟨x.id, 0, 0, x.fr, [], fun _ => 0⟩, false⟩ := by
      rw [HCS.out]
      unfold cleanS
      simp
    clear HCS
    have HCL := Lib.hid (fun (wx : World) (hx : Fr wa.heap.size [] wa wx) => (by
      have FX := FA.out.trans (hx.mono (B' := w.heap.size) (L' := []) FA.out.size (by simp))
      exact iclone_any Af nf cf B x.fr wx HNF.out h1 (RF.out.fr FX hB (by simp)) (Nat.le_trans hB FX.size) : Calls Tryz.prog 67 #[.slice Af nf cf] wx fun e w' => ∃ A' c', e = .returned (.slice A' nf c') ∧ w'.ownsRow wx.heap.size 3 1 (.slice A' nf c') nf (x.fr.map (Value.int .i64)) ∧ Fr wx.heap.size [] wx w'))
    have SF := Lib.hid (fun (w : World) (h : Fr wa.heap.size [g + 1 + 1 + 1] wa w) => (⟨(B3.out.fr h B3.out.lt (by simp)).cell 0, (B3.out.fr h B3.out.lt (by simp)).cell 2⟩ : w.cell? ⟨g + 1 + 1, 0, none⟩ = some (.int .i64 x.id) ∧ w.cell? ⟨g + 1 + 1, 2, none⟩ = some (.slice Af nf cf)))
    have INV := Lib.hid ((Fr.refl wa.heap.size [g + 1 + 1 + 1] wa).drew)
    have IN0 := Lib.hid ((Fr.refl wa.heap.size [] wa).drew)
    go_wp2_with fail
    clear k0 k14 n0 n1 n2 n3 n4 n5 n6 n7 n8 n9 n10 n11 n12 y1 m1 y2 m2 y3 m3 y4 m4 y5 m5 y6 m6 y7 m7 y8 m8 y9 m9 y10 m10 y11 m11 y12 m12 y13 m13 y14 m14

    refine wp_region_held_drew (S := fun w => w.cell? ⟨g + 1 + 1, 0, none⟩ = some (.int .i64 x.id) ∧ w.cell? ⟨g + 1 + 1, 2, none⟩ = some (.slice Af nf cf)) (by kernel_rfl) (SF.out _ INV.out) (fun hHeld => ?_)
    refine wpAnyH_take (i := 0) (oi := { dst := some 51, op := Op.fieldAddr 49 (Operand.tmp 3) 0, type := 0, pos := "plan.go:35", after := #[], guard := none }) (v := ?_) rfl (by kernel_rfl) (by kernel_rfl) (by kernel_rfl) (fun _ _ _ h => h) (Or.inl ⟨by rfl, ?_⟩) hHeld ?_
    rotate_left
    · intro w hSw; (try dsimp only at hSw); go_simp; (try with_reducible rfl)
    simp only [Act.put, List.setIfInBounds_toArray, List.set_cons_zero, List.set_cons_succ]
    refine wpAnyH_take (i := 1) (oi := { dst := some 52, op := Op.load 3 (Operand.tmp 51), type := 3, pos := "plan.go:35", after := #[{ on := 0, ground := Ground.data }], guard := none }) (v := ?_) rfl (by kernel_rfl) (by kernel_rfl) (by kernel_rfl) (fun _ _ _ h => h) (Or.inl ⟨by rfl, ?_⟩) hHeld ?_
    rotate_left
    · intro w hSw; (try dsimp only at hSw); go_simp; (try with_reducible rfl)
    simp only [Act.put, List.setIfInBounds_toArray, List.set_cons_zero, List.set_cons_succ]
    refine wpAnyH_take (i := 2) (oi := { dst := some 53, op := Op.fieldAddr 49 (Operand.tmp 3) 2, type := 0, pos := "plan.go:35", after := #[], guard := none }) (v := ?_) rfl (by kernel_rfl) (by kernel_rfl) (by kernel_rfl) (fun _ _ _ h => h) (Or.inl ⟨by rfl, ?_⟩) hHeld ?_
    rotate_left
    · intro w hSw; (try dsimp only at hSw); go_simp; (try with_reducible rfl)
    simp only [Act.put, List.setIfInBounds_toArray, List.set_cons_zero, List.set_cons_succ]
    refine wpAnyH_take (i := 3) (oi := { dst := some 54, op := Op.load 45 (Operand.tmp 53), type := 45, pos := "plan.go:35", after := #[{ on := 2, ground := Ground.data }], guard := none }) (v := ?_) rfl (by kernel_rfl) (by kernel_rfl) (by kernel_rfl) (fun _ _ _ h => h) (Or.inl ⟨by rfl, ?_⟩) hHeld ?_
    rotate_left
    · intro w hSw; (try dsimp only at hSw); go_simp; (try with_reducible rfl)
    simp only [Act.put, List.setIfInBounds_toArray, List.set_cons_zero, List.set_cons_succ]
    refine wpAnyH_ready (rs := [4]) (by kernel_rfl) (by simp) ?_
    refine AllReadyH.cons (o := { dst := some 55, op := Op.call { callee := Callee.value (Operand.func 67), args := #[Operand.tmp 54], argTypes := #[45] }, type := 45, pos := "plan.go:35", after := #[{ on := 3, ground := Ground.data }], guard := none }) rfl (fun K hK => ?_) AllReadyH.nil
    rw [if_pos (by rfl)]
    go_simp
    refine (HCL.out _ IN0.out).mono ?_
    rintro e w' ⟨A1, c1, rfl, ho, hf⟩
    have HO := Lib.hid (ownsRow_base ho IN0.out.size)
    have IN0 := Lib.hid (IN0.out.trans (hf.mono IN0.out.size (by simp)))
    have INV := Lib.hid (INV.out.trans (hf.mono INV.out.size (by simp)))
    clear ho hf
    refine hK.out _ _ (SF.out _ INV.out) (fun hHeld => ?_)
    clear hK K
    try simp only [Act.put, List.setIfInBounds_toArray, List.set_cons_zero, List.set_cons_succ]
    refine wpAnyH_take (i := 5) (oi := { dst := some 56, op := Op.build 49 #[(0, Operand.tmp 52), (2, Operand.tmp 55)], type := 49, pos := "plan.go:35", after := #[{ on := 1, ground := Ground.data }, { on := 4, ground := Ground.data }], guard := none }) (v := ?_) rfl (by kernel_rfl) (by kernel_rfl) (by kernel_rfl) (fun _ _ _ h => h) (Or.inl ⟨by rfl, ?_⟩) hHeld ?_
    rotate_left
    · intro w hSw; (try dsimp only at hSw); go_simp; (try with_reducible rfl)
    simp only [Act.put, List.setIfInBounds_toArray, List.set_cons_zero, List.set_cons_succ]
    refine wpAnyH_take (i := 6) (oi := { dst := some 57, op := Op.fieldAddr 110 (Operand.tmp 4) 1, type := 0, pos := "plan.go:35", after := #[{ on := 0, ground := Ground.phase }, { on := 1, ground := Ground.phase }, { on := 2, ground := Ground.phase }, { on := 3, ground := Ground.phase }, { on := 4, ground := Ground.phase }, { on := 5, ground := Ground.phase }], guard := none }) (v := ?_) rfl (by kernel_rfl) (by kernel_rfl) (by kernel_rfl) (fun _ _ _ h => h) (Or.inl ⟨by rfl, ?_⟩) hHeld ?_
    rotate_left
    · intro w hSw; (try dsimp only at hSw); go_simp; (try with_reducible rfl)
    simp only [Act.put, List.setIfInBounds_toArray, List.set_cons_zero, List.set_cons_succ]
    refine wpAnyH_ready (rs := [7]) (by kernel_rfl) (by simp) ?_
    refine AllReadyH.cons (o := { dst := none, op := Op.store 49 (Operand.tmp 57) (Operand.tmp 56), type := 0, pos := "plan.go:35", after := #[{ on := 6, ground := Ground.data }, { on := 5, ground := Ground.data }, { on := 4, ground := Ground.chain }, { on := 0, ground := Ground.phase }, { on := 1, ground := Ground.phase }, { on := 2, ground := Ground.phase }, { on := 3, ground := Ground.phase }, { on := 4, ground := Ground.phase }, { on := 5, ground := Ground.phase }], guard := none }) rfl (fun K hK => ?_) AllReadyH.nil
    rw [if_pos (by rfl)]
    have B4' := B4.out.fr IN0.out B4.out.lt (by simp)
    have y1 := B4'.frozen 1
    have y2 := B4'.frozen 2
    have y3 := B4'.frozen 3
    have y4 := B4'.frozen 4
    have y5 := B4'.frozen 5
    have y6 := B4'.frozen 6
    have y7 := B4'.frozen 7
    have y8 := B4'.frozen 8
    have y9 := B4'.frozen 9
    have y10 := B4'.frozen 10
    have y11 := B4'.frozen 11
    have y12 := B4'.frozen 12
    have y13 := B4'.frozen 13
    have m1 := B4'.cell 1
    have m2 := B4'.cell 2
    have m3 := B4'.cell 3
    have m4 := B4'.cell 4
    have m5 := B4'.cell 5
    have m6 := B4'.cell 6
    have m7 := B4'.cell 7
    have m8 := B4'.cell 8
    have m9 := B4'.cell 9
    have m10 := B4'.cell 10
    have m11 := B4'.cell 11
    have m12 := B4'.cell 12
    have m13 := B4'.cell 13
    simp at m1 m2 m3 m4 m5 m6 m7 m8 m9 m10 m11 m12 m13
    go_simp
    have INS := Lib.hid (fr_setL (g := g + 1 + 1 + 1) (.inr (by simp)) ([.int .i64 x.id, .int .i64 0, (.slice A1 nf c1), (.slice none 0 0), .int .i64 0, .int .i64 0, .int .i64 0, .int .i64 0, .int .i64 0, .int .i64 0, .int .i64 0, .int .i64 0, .int .i64 0]) 1 INV.out)
    have INV := INS
    clear y1 m1 y2 m2 y3 m3 y4 m4 y5 m5 y6 m6 y7 m7 y8 m8 y9 m9 y10 m10 y11 m11 y12 m12 y13 m13
    refine hK.out _ _ (SF.out _ INV.out) (fun hHeld => ?_)
    clear hK K
    try simp only [Act.put, List.setIfInBounds_toArray, List.set_cons_zero, List.set_cons_succ]
    refine wpAnyH_done (by kernel_rfl) ?_ _
    have B45 := Lib.hid (B4.out.fr IN0.out B4.out.lt (by simp))
    have B25 := Lib.hid (B2.out.fr IN0.out B2.out.lt (by simp))
    have F5 := Lib.hid (FA.out.trans (IN0.out.mono (B' := w.heap.size) (L' := []) FA.out.size (by simp)))
    clear INV INS SF hHeld HCL
    go_upto_region 15 with fail
    generalize hwz : World.setCell _ _ _ = wz
    have d4 := blk_setL ([.int .i64 x.id, .int .i64 0, (.slice A1 nf c1), (.slice none 0 0), .int .i64 0, .int .i64 0, .int .i64 0, .int .i64 0, .int .i64 0, .int .i64 0, .int .i64 0, .int .i64 0, .int .i64 0]) 1 B45.out
    simp only [putL, List.setIfInBounds_toArray, List.set_cons_succ, List.set_cons_zero, Nat.reduceAdd] at d4
    have d2 := far_setL (g := g + 1 + 1 + 1) (by omega) ([.int .i64 x.id, .int .i64 0, (.slice A1 nf c1), (.slice none 0 0), .int .i64 0, .int .i64 0, .int .i64 0, .int .i64 0, .int .i64 0, .int .i64 0, .int .i64 0, .int .i64 0, .int .i64 0]) 1 B25.out
    have fz := fr_setL (g := g + 1 + 1 + 1) (.inl (by have := HG.out; omega)) ([.int .i64 x.id, .int .i64 0, (.slice A1 nf c1), (.slice none 0 0), .int .i64 0, .int .i64 0, .int .i64 0, .int .i64 0, .int .i64 0, .int .i64 0, .int .i64 0, .int .i64 0, .int .i64 0]) 1 F5.out
    have fs := fr_setL (g := g + 1 + 1 + 1) (.inr (by simp)) ([.int .i64 x.id, .int .i64 0, (.slice A1 nf c1), (.slice none 0 0), .int .i64 0, .int .i64 0, .int .i64 0, .int .i64 0, .int .i64 0, .int .i64 0, .int .i64 0, .int .i64 0, .int .i64 0]) 1 (Fr.refl w'.heap.size [g + 1 + 1 + 1] w')
    have D4 := Lib.hid (by rw [← hwz]; exact d4 : Blk wz (g + 1 + 1 + 1) 110 _)
    have D2 := Lib.hid (by rw [← hwz]; exact d2 : Blk wz (g + 1) 110 _)
    have FZ := Lib.hid (by rw [← hwz]; exact fz : Fr w.heap.size [] w wz)
    have FS := Lib.hid (by rw [← hwz]; exact fs : Fr w'.heap.size [g + 1 + 1 + 1] w' wz)
    clear hwz d4 d2 fz fs
    have OWN := Lib.hid (ownsRow_fr HO.out FS.out (fun q hq => ⟨(HO.out.lt q hq).2, by have := (HO.out.lt q hq).1; have := HSA.out; simp; omega⟩))
    have NIN := Lib.hid (show NdIn wz wz.heap.size ((⟨x.id, 0, 0, x.fr, [], fun _ => 0⟩ : Nd), .slice A1 nf c1, .slice none 0 0) from ⟨⟨A1, c1, by rw [HNF.out], by rw [← HNF.out]; exact Reads.of_own OWN.out⟩, ⟨none, 0, rfl, Reads.none_⟩⟩)
    have FF := Lib.hid (fresh_own HO.out (b := g + 4) (by have := HSA.out; omega))
    have FP := Lib.hid (fresh_nil (g + 4))
    clear FS HO OWN IN0
    have q0 := D4.out.cell 0
    have q1 := D4.out.cell 1
    have q2 := D4.out.cell 2
    have q3 := D4.out.cell 3
    have q4 := D4.out.cell 4
    have q5 := D4.out.cell 5
    have q6 := D4.out.cell 6
    have q7 := D4.out.cell 7
    have q8 := D4.out.cell 8
    have q9 := D4.out.cell 9
    have q10 := D4.out.cell 10
    have q11 := D4.out.cell 11
    have q12 := D4.out.cell 12
    have q13 := D4.out.cell 13
    have q14 := D4.out.cell 14
    simp at q0 q1 q2 q3 q4 q5 q6 q7 q8 q9 q10 q11 q12 q13 q14
    have z0 := D2.out.frozen 0
    have z1 := D2.out.frozen 1
    have z2 := D2.out.frozen 2
    have z3 := D2.out.frozen 3
    have z4 := D2.out.frozen 4
    have z5 := D2.out.frozen 5
    have z6 := D2.out.frozen 6
    have z7 := D2.out.frozen 7
    have z8 := D2.out.frozen 8
    have z9 := D2.out.frozen 9
    have z10 := D2.out.frozen 10
    have z11 := D2.out.frozen 11
    have z12 := D2.out.frozen 12
    have z13 := D2.out.frozen 13
    have z14 := D2.out.frozen 14
    have s0 := D2.out.cell 0
    have s1 := D2.out.cell 1
    have s2 := D2.out.cell 2
    have s3 := D2.out.cell 3
    have s4 := D2.out.cell 4
    have s5 := D2.out.cell 5
    have s6 := D2.out.cell 6
    have s7 := D2.out.cell 7
    have s8 := D2.out.cell 8
    have s9 := D2.out.cell 9
    have s10 := D2.out.cell 10
    have s11 := D2.out.cell 11
    have s12 := D2.out.cell 12
    have s13 := D2.out.cell 13
    have s14 := D2.out.cell 14
    simp at s0 s1 s2 s3 s4 s5 s6 s7 s8 s9 s10 s11 s12 s13 s14
    go_wp2_with fail
    have be := blk_setL ([.int .i64 5, .int .i64 x.id, .int .i64 0, (.slice A1 nf c1), (.slice none 0 0), .int .i64 0, .int .i64 (0 : Int), .int .i64 (0 : Int), .int .i64 (0 : Int), .int .i64 (0 : Int), .int .i64 (0 : Int), .int .i64 (0 : Int), .int .i64 (0 : Int), .int .i64 (0 : Int), .bool false]) 0 D2.out
    simp only [putL, List.setIfInBounds_toArray, List.set_cons_succ, List.set_cons_zero, Nat.reduceAdd] at be
    have BE := Lib.hid be
    clear be
    have fe := fr_setL (g := g + 1) (.inr (by simp)) ([.int .i64 5, .int .i64 x.id, .int .i64 0, (.slice A1 nf c1), (.slice none 0 0), .int .i64 0, .int .i64 (0 : Int), .int .i64 (0 : Int), .int .i64 (0 : Int), .int .i64 (0 : Int), .int .i64 (0 : Int), .int .i64 (0 : Int), .int .i64 (0 : Int), .int .i64 (0 : Int), .bool false]) 0 (Fr.refl wz.heap.size [g + 1] wz)
    have FE := Lib.hid (FZ.out.trans (fe.mono (B' := w.heap.size) (L' := []) FZ.out.size (by intro k hk hlt; have := HG.out; simp at hk; omega)))
    have NE := Lib.hid ((ndin_fresh NIN.out FF.out FP.out fe (Nat.le_refl _) (by intro k hk; simp at hk; omega)).more fe.size)
    refine bodyPost_ret (results_cell_row rfl _ _ (g + 1) 110 (stV (⟨5, ⟨x.id, 0, 0, x.fr, [], fun _ => 0⟩, false⟩ : Stp) (.slice A1 nf c1) (.slice none 0 0)) (0, 0) _ rfl BE.out Tryz.underlying110 rfl (by kernel_rfl)) rfl (HOUT.out (.slice A1 nf c1) (.slice none 0 0) _ NE.out (fresh_le FF.out (by have := HG.out; omega)) (fresh_le FP.out (by have := HG.out; omega)) FE.out)
  · exact absurd HKD.out e5
end Go.Proofs.YthfibggbipkmfaaGreat
namespace Go.Proofs.YthfibggbipkmfaaGreat
open Go.RowKit Go.Fb
theorem pas_right8 (p : Int) (h1 : 1 ≤ p) (h3 : p ≤ 3) : right8 p (rtk 8 p) = true := by
  unfold right8 inTo
  rw [Bool.and_eq_true]
  refine ⟨by simp; omega, ?_⟩
  rw [List.all_eq_true]
  intro k hk
  have hk := List.mem_range.1 hk
  have hp : 0 < p := by omega
  have a1 := Int.emod_nonneg (k : Int) (show p ≠ 0 by omega)
  have a2 := Int.emod_lt_of_pos (k : Int) hp
  simp [rtk, hk]
  omega
theorem pass_right (p : Int) : RightG (passL p) := by
  obtain ⟨h1, h3⟩ := parP_in p
  have hr := pas_right8 (parP p) h1 h3
  refine ⟨by simp [passL], ?_, ?_, by simp [passL, idsN, pasN], ⟨fun f => if f = 0 then 0 else 1, ?_⟩⟩
  · intro n hn
    simp only [passL, List.mem_cons, List.not_mem_nil, or_false] at hn
    rcases hn with rfl | rfl
    · simp [nodeB, pasN, kindB, hr]
    · have hu : unlikeB [0] = true := by simp [unlikeB]
      have ha : aboveB (passL p) 0 = false := by simp [aboveB, findN, passL, pasN]
      simp [nodeB, pasS, kindB, hr, hu, ha]
  · simp [passL, idsN, pasN, pasS]
  · intro n hn f hf
    simp only [passL, List.mem_cons, List.not_mem_nil, or_false] at hn
    rcases hn with rfl | rfl
    · simp [pasN] at hf
    · simp [pasS] at hf
      subst hf
      simp [pasS]
theorem small_pass {p : Int} {M : List Ndm} (h : fstN M = passL p) : Small M := by
  refine ⟨?_, fun m hm => ?_⟩
  · have := congrArg List.length h
    simp [fstN, passL] at this
    omega
  · have h1 : m.1 ∈ fstN M := List.mem_map.2 ⟨m, hm, rfl⟩
    rw [h] at h1
    simp only [passL, List.mem_cons, List.not_mem_nil, or_false] at h1
    rcases h1 with h1 | h1 <;> rw [h1] <;> simp [pasN, pasS]
def greatN (L : List Nd) : Bool := decide (20 < L.length) || L.any fun x => decide (60 < x.pg.length) || decide (20 < x.fr.length)
set_option maxRecDepth 100000 in
set_option maxHeartbeats 2000000 in
theorem great08_any (A : Option Addr) (c B n : Nat) (M : List Ndm) (w : World) (h : Nds w B A n M) (hB : B ≤ w.heap.size) (hm : n ≤ maxLen) :
    Calls Tryz.prog 28 #[.slice A n c] w fun e w' => e = .returned (.bool (greatN (fstN M))) ∧ Fr w.heap.size [] w w' := by
  unfold maxLen at hm
  obtain ⟨L, hL⟩ : ∃ L, L = fstN M := ⟨_, rfl⟩
  obtain ⟨v, hv⟩ : ∃ v, v = greatN L := ⟨_, rfl⟩
  have hnl : L.length = n := by rw [hL, h.num]; simp [fstN]
  rw [← hL, ← hv]
  have HV := Lib.hid hv
  have HL := Lib.hid hL
  have HNL := Lib.hid hnl
  have H := Lib.hid h
  clear h hL hv hnl
  by_cases h20 : 20 < n
  · have hv : v = true := by rw [HV.out, greatN, HNL.out, decide_eq_true h20]; rfl
    have HVV := Lib.hid hv
    clear hv
    go_enter Tryz.func28, Tryz.ntmps28
    go_wp2_with fail
    go_ret
    exact ⟨by rw [HVV.out]; rfl, Fr.refl _ _ _⟩
  have hn20 : n ≤ 20 := by omega
  have HVA := Lib.hid (show v = L.any (fun x => decide (60 < x.pg.length) || decide (20 < x.fr.length)) by rw [HV.out, greatN, HNL.out, decide_eq_false h20]; rfl)
  go_enter Tryz.func28, Tryz.ntmps28
  go_wp2_with fail
  go_loopg [10] n (fun g s10 wr => ∃ k : Nat, k ≤ n ∧ g = n - k ∧ s10 = .int .i64 k ∧ RowKit.Hid (∀ x ∈ L.take k, (decide (60 < x.pg.length) || decide (20 < x.fr.length)) = false) ∧ RowKit.Hid (Fr w.heap.size [] w wr))
  case atStart => exact ⟨0, Nat.zero_le _, rfl, rfl, Lib.hid (by simp), Lib.hid (Fr.refl _ _ _)⟩
  case round =>
    obtain ⟨k, hk, rfl, rfl, HB, FR⟩ := hrel
    by_cases hkn : k < n
    · have hki : (k : Int) < (n : Int) := by omega
      have hk0 : (0 : Int) ≤ (k : Int) := by omega
      obtain ⟨m, hx⟩ : ∃ m, M[k]? = some m := ⟨_, List.getElem?_eq_getElem (by rw [← H.out.num]; exact hkn)⟩
      have HND := H.out.frw FR.out hB (by simp)
      obtain ⟨b1, o1, rfl, hb1, hc1⟩ := HND.get hx
      have hin := HND.inn m (List.mem_of_getElem? hx)
      have HTK := Lib.hid (show L.take (k + 1) = L.take k ++ [m.1] by rw [HL.out]; exact fst_take hx)
      have HX := Lib.hid (show L[k]? = some m.1 by rw [HL.out]; simp [fstN, hx])
      obtain ⟨x, sf, sp⟩ := m
      have FA := Lib.hid (FR.out.alloc FR.out.size (.cells (ndA x sf sp) 49))
      obtain ⟨⟨Af, cf, hf1, _⟩, ⟨Ap, cp, hp1, _⟩⟩ := hin
      simp only at hf1 hp1 HTK HX
      subst hf1
      subst hp1
      obtain ⟨g0, g1, g2, g3, g4, g5, g6, g7, g8, g9, g10, g11, g12⟩ := ndL_get (x, .slice Af x.fr.length cf, .slice Ap x.pg.length cp)
      have p0 := hc1 0 _ g0
      have p1 := hc1 1 _ g1
      have p2 := hc1 2 _ g2
      have p3 := hc1 3 _ g3
      have p4 := hc1 4 _ g4
      have p5 := hc1 5 _ g5
      have p6 := hc1 6 _ g6
      have p7 := hc1 7 _ g7
      have p8 := hc1 8 _ g8
      have p9 := hc1 9 _ g9
      have p10 := hc1 10 _ g10
      have p11 := hc1 11 _ g11
      have p12 := hc1 12 _ g12
      simp only [Nat.add_zero] at p0
      obtain ⟨nf, hnf⟩ : ∃ z, z = x.fr.length := ⟨_, rfl⟩
      obtain ⟨np, hnp⟩ : ∃ z, z = x.pg.length := ⟨_, rfl⟩
      rw [← hnf] at p2 FA
      rw [← hnp] at p3 FA
      have HNF := Lib.hid hnf
      have HNP := Lib.hid hnp
      clear hc1 hx g0 g1 g2 g3 g4 g5 g6 g7 g8 g9 g10 g11 g12 HND hnf hnp hb1
      by_cases e1 : 60 < np
      · have hv : v = true := by rw [HVA.out]; exact any_take HX.out (by rw [← HNP.out, decide_eq_true e1]; rfl)
        have HVV := Lib.hid hv
        clear hv
        go_wp2_with fail
        go_ret
        exact ⟨by rw [HVV.out]; rfl, FA.out⟩
      · by_cases e2 : 20 < nf
        · have hv : v = true := by rw [HVA.out]; exact any_take HX.out (by rw [← HNF.out, decide_eq_true e2]; simp)
          have HVV := Lib.hid hv
          clear hv
          go_wp2_with fail
          go_ret
          exact ⟨by rw [HVV.out]; rfl, FA.out⟩
        · have HB2 := Lib.hid (show ∀ y ∈ L.take (k + 1), (decide (60 < y.pg.length) || decide (20 < y.fr.length)) = false from fun y hy => by
            rw [HTK.out] at hy
            rcases List.mem_append.1 hy with hy | hy
            · exact HB.out y hy
            · rw [List.mem_singleton.1 hy, ← HNP.out, ← HNF.out, decide_eq_false e1, decide_eq_false e2]; rfl)
          go_wp2_with fail
          go_roundg (n - (k + 1))
          case measure => omega
          case rel => exact ⟨k + 1, by omega, rfl, by go_num, HB2, FA⟩
    · obtain rfl : k = n := by omega
      have hv : v = false := by
        have htk : L.take k = L := List.take_of_length_le (by rw [HNL.out]; exact Nat.le_refl _)
        have h := HB.out
        rw [htk] at h
        rw [HVA.out]
        exact any_none h
      have HVV := Lib.hid hv
      clear hv
      go_wp2_with fail
      go_ret
      exact ⟨by rw [HVV.out]; rfl, FR.out⟩
end Go.Proofs.YthfibggbipkmfaaGreat
namespace Go.Proofs.YthfibggbipkmfaaGreat
open Go.RowKit Go.Fb
set_option linter.unusedVariables false
theorem pass_child (p : Int) : childN (passL p) 0 = [1] := by
  have h : kidsN (passL p) 0 [] = [1] := by simp [kidsN, hasI, passL, pasN, pasS]
  unfold childN
  rw [h]
  exact List.perm_singleton.1 (srt_perm _)
theorem pass_sinks (p : Int) : ∀ c ∈ childN (passL p) 0, ∃ x, findN (passL p) c = some x ∧ x.kind = 2 := by
  intro c hc
  rw [pass_child, List.mem_singleton] at hc
  subst hc
  exact ⟨pasS (parP p), by simp [findN, passL, pasN, pasS], rfl⟩
set_option maxRecDepth 100000 in
set_option maxHeartbeats 4000000 in
theorem awake12_any (w : World) : Calls Tryz.prog 9 #[] w fun e w' => e = .returned (.bool true) ∧ Fr w.heap.size [] w w' := by
  have HN := Lib.hid (cnew_any none 0 0 w.heap.size [] w rfl (by omega) Reads.none_ (Nat.le_refl _))
  go_enter Tryz.func9, Tryz.ntmps9
  go_wp2_with fail
  refine HN.out.mono ?_
  rintro e w1 (⟨hb, _⟩ | ⟨_, rfl, c1, f1⟩)
  · cases hb
  have F1 := Lib.hid f1
  have HP := Lib.hid (pass_any 1 w1)
  clear c1 f1 HN
  go_wp2_with fail
  refine HP.out.mono ?_
  rintro e w2 ⟨A, c, M, rfl, hn, hf, f2⟩
  have F2 := Lib.hid (F1.out.trans (f2.mono (B' := w.heap.size) (L' := []) F1.out.size (by simp)))
  have fa := (Fr.refl w2.heap.size [] w2).alloc (Nat.le_refl _) (.cells #[.int .i64 5, .int .i64 1, .int .i64 0] 56)
  have BA := Blk.new w2 56 #[.int .i64 5, .int .i64 1, .int .i64 0]
  have HND := (hn.nds (L := []) (Fr.refl _ _ _) (by simp)).frw fa (Nat.le_refl _) (by simp)
  have HRN := Lib.hid (by
    have := drun_any (w.heap.size + 1) A (some ⟨w2.heap.size, 0, none⟩) c 1 (w2.heap.size + 1) 2 1 M [fun j => if j = 0 then 5 else if j = 1 then 1 else 0] (w2.alloc (.cells #[.int .i64 5, .int .i64 1, .int .i64 0] 56)) (HND.more (by omega)) (by simp) (small_pass hf) (by rw [hf]; exact pass_right 1) rfl (by omega) (Reads.of_blk BA rfl) (by rw [hf]; exact pass_sinks 1)
    rw [hf, pass_child] at this
    exact this)
  have FA := Lib.hid (F2.out.trans (fa.mono (B' := w.heap.size) (L' := []) F2.out.size (by simp)))
  clear hn hf f2 fa BA HND HP F1 F2
  go_wp2_with fail
  refine HRN.out.mono ?_
  rintro e w3 (⟨hb, _⟩ | ⟨_, A3, n3, c3, hn3, rfl, hr3, hc3, f3⟩)
  · exact absurd hb (by decide)
  have F3 := Lib.hid (FA.out.trans (f3.mono (B' := w.heap.size) (L' := []) FA.out.size (by simp)))
  have hn1 : n3 = 1 := hn3
  subst hn1
  obtain ⟨b, off, rfl, hb, hcc⟩ := reads_ln (l := outR [1] [fun j => if j = 0 then 5 else if j = 1 then 1 else 0]) hr3 (k := 0) (x := lnF 1 0 5 1 0) rfl
  have p0 : w3.cell? ⟨b, off, none⟩ = some (.int .i64 1) := hcc 0 (by omega)
  have p1 : w3.cell? ⟨b, off + 1, none⟩ = some (.int .i64 0) := hcc 1 (by omega)
  have p2 : w3.cell? ⟨b, off + 2, none⟩ = some (.int .i64 5) := hcc 2 (by omega)
  have p3 : w3.cell? ⟨b, off + 3, none⟩ = some (.int .i64 1) := hcc 3 (by omega)
  have p4 : w3.cell? ⟨b, off + 4, none⟩ = some (.int .i64 0) := hcc 4 (by omega)
  have heq : ∀ W, (binOp .eql 44 (.agg #[.int .i64 1, .int .i64 0, .int .i64 5, .int .i64 1, .int .i64 0]) (.agg #[.int .i64 1, .int .i64 0, .int .i64 5, .int .i64 1, .int .i64 0])).run Tryz.prog W = .ok (.bool true) W := fun W => by kernel_rfl
  clear hcc hr3 f3 hb HRN hn3
  go_wp2_with fail
  go_ret
  exact ⟨rfl, F3.out⟩
end Go.Proofs.YthfibggbipkmfaaGreat
namespace Go.Proofs.YthfibggbipkmfaaGreat
open Go.RowKit Go.Fb
set_option linter.unusedVariables false
/-- The records, and the lines, of one key. -/
def kf (k : Int) (l : List (Nat → Int)) : List (Nat → Int) := l.filter fun x => decide (x 0 = k)
def ko (k : Int) (l : List (Nat → Int)) : List (Nat → Int) := l.filter fun x => decide (x 2 = k)
theorem ko_app (k : Int) (a b : List (Nat → Int)) : ko k (a ++ b) = ko k a ++ ko k b := List.filter_append ..
/-- Two jobs that are one, as far as a key is concerned. -/
def KT (k : Int) (a b : DS) : Prop := (∀ id, a.T (id, k) = b.T (id, k)) ∧ ko k a.out = ko k b.out
theorem KT.refl (k : Int) (a : DS) : KT k a a := ⟨fun _ => rfl, rfl⟩
theorem KT.trans {k : Int} {a b c : DS} (h : KT k a b) (g : KT k b c) : KT k a c := ⟨fun id => (h.1 id).trans (g.1 id), h.2.trans g.2⟩
theorem KT.symm {k : Int} {a b : DS} (h : KT k a b) : KT k b a := ⟨fun id => (h.1 id).symm, h.2.symm⟩
theorem keep_ne (x : Nd) (T : Pk → CV) (id key : Int) (v : Int × Int) {k : Int} (h : key ≠ k) (i : Int) : keepD x T id key v (i, k) = T (i, k) := by
  unfold keepD updT
  rw [if_neg]
  intro e
  injection e with _ e
  exact h e.symm
theorem come_off {L : List Nd} {put : Int → Int → Int × Int → DS → DS} {key k : Int} (hk : key ≠ k) (hp : ∀ id v S, KT k S (put id key v S)) (frm id : Int) (v : Int × Int) (S : DS) : KT k S (comeD L put frm id key v S) := by
  unfold comeD
  cases findN L id with
  | none => exact KT.refl k S
  | some x =>
    simp only
    split
    · refine ⟨fun _ => rfl, ?_⟩
      show ko k S.out = ko k (S.out ++ _)
      rw [ko_app]
      have : ko k [lnF id frm key v.1 v.2] = [] := by unfold ko; rw [List.filter_cons_of_neg]; · rfl
                                                      · show ¬ (decide (key = k) = true); simpa using hk
      rw [this, List.append_nil]
    · refine foldl_ind (fun s => KT k S s) _ _ _ ⟨fun i => (keep_ne x S.T id key v hk i).symm, rfl⟩ fun s u _ h => h.trans (hp id u s)
theorem put_other (L : List Nd) {key k : Int} (hk : key ≠ k) : ∀ (d : Nat) (id : Int) (v : Int × Int) (S : DS), KT k S (putD L d id key v S)
  | 0, _, _, S => KT.refl k S
  | d + 1, id, v, S => by
    unfold putD
    exact foldl_ind (fun s => KT k S s) _ _ _ (KT.refl k S) fun s c _ h => h.trans (come_off hk (put_other L hk d) id c v s)
theorem foldl_kt {α : Type} {k : Int} (f : DS → α → DS) : ∀ (l : List α) {a b : DS}, (∀ x ∈ l, ∀ a b, KT k a b → KT k (f a x) (f b x)) → KT k a b → KT k (l.foldl f a) (l.foldl f b)
  | [], _, _, _, h => h
  | x :: l, a, b, hf, h => foldl_kt f l (fun y hy => hf y (by simp [hy])) (hf x (by simp) a b h)
theorem come_same {L : List Nd} {put : Int → Int → Int × Int → DS → DS} {k : Int} (hp : ∀ id v a b, KT k a b → KT k (put id k v a) (put id k v b)) (frm id : Int) (v : Int × Int) {a b : DS} (h : KT k a b) : KT k (comeD L put frm id k v a) (comeD L put frm id k v b) := by
  unfold comeD
  cases findN L id with
  | none => exact h
  | some x =>
    simp only
    by_cases hk : x.kind = 2
    · rw [if_pos hk, if_pos hk]
      refine ⟨h.1, ?_⟩
      show ko k (a.out ++ _) = ko k (b.out ++ _)
      rw [ko_app, ko_app, h.2]
    · rw [if_neg hk, if_neg hk]
      have e1 : emitsD x a.T id k v = emitsD x b.T id k v := by unfold emitsD; rw [h.1 id]
      rw [e1]
      refine foldl_kt _ _ (fun u _ a b h => hp id u a b h) ⟨fun i => ?_, h.2⟩
      show keepD x a.T id k v (i, k) = keepD x b.T id k v (i, k)
      unfold keepD updT
      rw [h.1 id]
      split
      · rfl
      · exact h.1 i
theorem put_same {L : List Nd} {k : Int} : ∀ (d : Nat) (id : Int) (v : Int × Int) {a b : DS}, KT k a b → KT k (putD L d id k v a) (putD L d id k v b)
  | 0, _, _, _, _, h => h
  | d + 1, id, v, a, b, h => foldl_kt _ _ (fun c _ a b h => come_same (fun id v a b h => put_same d id v h) id c v h) h
theorem flow_key {L : List Nd} {k : Int} : ∀ (l : List (Nat → Int)) {a b : DS}, KT k a b → KT k (flowD L l a) (flowD L (kf k l) b)
  | [], a, b, h => h
  | x :: l, a, b, h => by
    show KT k (flowD L l (oneD L a x)) _
    by_cases e : x 0 = k
    · have e1 : kf k (x :: l) = x :: kf k l := by unfold kf; rw [List.filter_cons_of_pos (by simpa using e)]
      rw [e1]
      show KT k _ (flowD L (kf k l) (oneD L b x))
      refine flow_key l ?_
      unfold oneD
      rw [e]
      exact put_same 8 0 (x 1, x 2) (a := ⟨a.T, a.out, cntU a.C 0⟩) (b := ⟨b.T, b.out, cntU b.C 0⟩) h
    · have e1 : kf k (x :: l) = kf k l := by unfold kf; rw [List.filter_cons_of_neg (by simpa using e)]
      rw [e1]
      refine flow_key l ?_
      exact (put_other L e 8 0 (x 1, x 2) ⟨a.T, a.out, cntU a.C 0⟩).symm.trans h
theorem onlyV_ko (l : List (Nat → Int)) (p : Pl) : onlyV (ko p.2.2 l) p = onlyV l p := by
  unfold onlyV ko
  rw [List.filter_filter]
  congr 1
  refine List.filter_congr fun x _ => ?_
  by_cases e : keyL x = p
  · have : x 2 = p.2.2 := by rw [← e]; rfl
    simp [e, this]
  · simp [e]
/-- By their keys, from 0 to 63. -/
def byKey (l : List (Nat → Int)) (n : Nat) : List (Nat → Int) := (List.range n).flatMap fun (k : Nat) => kf (k : Int) l
theorem byKey_succ (l : List (Nat → Int)) (n : Nat) : byKey l (n + 1) = byKey l n ++ kf (n : Int) l := by
  unfold byKey
  rw [List.range_succ, List.flatMap_append]
  simp
theorem kf_app (k : Int) (a b : List (Nat → Int)) : kf k (a ++ b) = kf k a ++ kf k b := List.filter_append ..
theorem kf_kf (k j : Int) (l : List (Nat → Int)) : kf k (kf j l) = if j = k then kf k l else [] := by
  unfold kf
  rw [List.filter_filter]
  split
  · rename_i e
    subst e
    exact List.filter_congr fun x _ => by simp
  · rename_i e
    refine List.filter_eq_nil_iff.2 fun x _ => ?_
    simp only [Bool.and_eq_true, decide_eq_true_eq]
    rintro ⟨h1, h2⟩
    exact e (by rw [← h1, ← h2])
theorem kf_byKey (k : Int) (l : List (Nat → Int)) : ∀ n : Nat, kf k (byKey l n) = if 0 ≤ k ∧ k < n then kf k l else []
  | 0 => by
    rw [if_neg (by omega)]
    rfl
  | n + 1 => by
    rw [byKey_succ, kf_app, kf_byKey k l n, kf_kf]
    by_cases e : (n : Int) = k
    · rw [if_neg (by omega), if_pos e, if_pos (by omega), List.nil_append]
    · rw [if_neg e, List.append_nil]
      by_cases h : 0 ≤ k ∧ k < n
      · rw [if_pos h, if_pos (by omega)]
      · rw [if_neg h, if_neg (by omega)]
theorem kf_none {k : Int} {l : List (Nat → Int)} (h : ∀ x ∈ l, x 0 ≠ k) : kf k l = [] := List.filter_eq_nil_iff.2 fun x hx => by simpa using h x hx
theorem kf_all {l : List (Nat → Int)} (h : l.all recR = true) (k : Int) : kf k (byKey l 64) = kf k l := by
  rw [kf_byKey]
  split
  · rfl
  · rename_i e
    refine (kf_none fun x hx c => ?_).symm
    have := (recR_ok (List.all_eq_true.1 h x hx)).1
    unfold keyOk at this
    omega
theorem byKey_all {l : List (Nat → Int)} (h : l.all recR = true) (n : Nat) : (byKey l n).all recR = true := by
  rw [List.all_eq_true]
  intro x hx
  obtain ⟨k, _, hk⟩ := List.mem_flatMap.1 hx
  exact List.all_eq_true.1 h x (List.mem_filter.1 hk).1
theorem kt_len : ∀ {a b : List (Nat → Int)}, (∀ k, ko k a = ko k b) → prefB a b = true ∧ a.length = b.length := by
  intro a b h
  have e : ∀ p, onlyV a p = onlyV b p := fun p => by rw [← onlyV_ko a, ← onlyV_ko b, h]
  have h1 : prefB a b = true := prefB_of fun p => by rw [e]; exact preB_self _
  have h2 : prefB b a = true := prefB_of fun p => by rw [e]; exact preB_self _
  have h3 := alike_eq a b
  rw [h1, h2] at h3
  exact ⟨h1, by simpa using h3⟩
/-- Records of unlike keys may come in any order. -/
theorem order_free (L : List Nd) {l m : List (Nat → Int)} (h : ∀ k, kf k l = kf k m) (S : DS) : (flowD L l S).T = (flowD L m S).T ∧ prefB (flowD L l S).out (flowD L m S).out = true ∧ (flowD L l S).out.length = (flowD L m S).out.length := by
  have hk : ∀ k, KT k (flowD L l S) (flowD L m S) := fun k => by
    have h1 := flow_key (L := L) (k := k) l (KT.refl k S)
    rw [h k] at h1
    exact h1.trans (flow_key (L := L) (k := k) m (KT.refl k S)).symm
  refine ⟨funext fun p => (hk p.2).1 p.1, kt_len fun k => (hk k).2⟩
theorem kf_snoc {l : List (Nat → Int)} {j : Nat} {x : Nat → Int} (hx : l[j]? = some x) (k : Int) : kf k (l.take (j + 1)) = if x 0 = k then kf k (l.take j) ++ [x] else kf k (l.take j) := by
  rw [List.take_add_one, hx, Option.toList_some, kf_app]
  unfold kf
  by_cases e : x 0 = k
  · rw [if_pos e, List.filter_cons_of_pos (by simpa using e)]
    rfl
  · rw [if_neg e, List.filter_cons_of_neg (by simpa using e), List.filter_nil, List.append_nil]
theorem byKey_len (l : List (Nat → Int)) : ∀ n : Nat, (byKey l n).length = (l.filter fun x => decide (0 ≤ x 0 ∧ x 0 < (n : Int))).length
  | 0 => by
    rw [show byKey l 0 = [] from rfl, List.filter_eq_nil_iff.2]
    intro x _
    simp only [decide_eq_true_eq]
    omega
  | n + 1 => by
    rw [byKey_succ, List.length_append, byKey_len l n]
    unfold kf
    induction l with
    | nil => rfl
    | cons x l ih =>
      simp only [List.filter_cons, decide_eq_true_eq]
      split <;> split <;> split <;> (try simp only [List.length_cons]) <;> omega
theorem byKey_le (l : List (Nat → Int)) (n : Nat) : (byKey l n).length ≤ l.length := by
  rw [byKey_len]
  exact List.length_filter_le _ _
theorem kf_len (k : Int) (l : List (Nat → Int)) : (kf k l).length ≤ l.length := List.length_filter_le _ _
end Go.Proofs.YthfibggbipkmfaaGreat
namespace Go.Proofs.YthfibggbipkmfaaGreat
open Go.RowKit Go.Fb
set_option linter.unusedVariables false
/-- So many lines of a sink; and of a sink from a node. -/
def cntS (s : Int) (l : List (Nat → Int)) : Nat := (l.filter fun x => decide (x 0 = s)).length
def cntF (s f : Int) (l : List (Nat → Int)) : Nat := (l.filter fun x => decide (x 0 = s) && decide (x 1 = f)).length
theorem cntS_snoc (s : Int) (l : List (Nat → Int)) (x : Nat → Int) : cntS s (l ++ [x]) = cntS s l + if x 0 = s then 1 else 0 := by
  unfold cntS
  rw [List.filter_append, List.length_append]
  by_cases h : x 0 = s <;> simp [h]
theorem cntF_snoc (s f : Int) (l : List (Nat → Int)) (x : Nat → Int) : cntF s f (l ++ [x]) = cntF s f l + if x 0 = s ∧ x 1 = f then 1 else 0 := by
  unfold cntF
  rw [List.filter_append, List.length_append]
  by_cases h : x 0 = s <;> by_cases g : x 1 = f <;> simp [h, g]
theorem cntS_le (s : Int) (l : List (Nat → Int)) : cntS s l ≤ l.length := List.length_filter_le _ _
theorem cntF_le (s f : Int) (l : List (Nat → Int)) : cntF s f l ≤ l.length := List.length_filter_le _ _
theorem cntF_pos {s f : Int} {l : List (Nat → Int)} (h : cntF s f l ≠ 0) : ∃ x ∈ l, x 0 = s ∧ x 1 = f := by
  unfold cntF at h
  obtain ⟨x, hx⟩ := List.exists_mem_of_length_pos (Nat.pos_of_ne_zero h)
  obtain ⟨h1, h2⟩ := List.mem_filter.1 hx
  simp only [Bool.and_eq_true, decide_eq_true_eq] at h2
  exact ⟨x, h1, h2⟩
theorem wrap_succ (n : Nat) : wrap64 (wrap64 (n : Int) + 1) = wrap64 ((n + 1 : Nat) : Int) := by
  unfold wrap64
  omega
theorem wrap_nat {n : Nat} (h : n ≤ 9000000000000000000) : wrap64 (n : Int) = n := by unfold wrap64; omega
/-- A line is that of a sink, from one of its Froms. -/
def LnOk (L : List Nd) (x : Nat → Int) : Prop := x 0 ∈ childN L (x 1) ∧ ∃ y, findN L (x 0) = some y ∧ y.kind = 2
structure CI (L : List Nd) (a : DS) : Prop where
  ln : ∀ x ∈ a.out, LnOk L x
  dom : ∀ q, a.C q ≠ none ↔ q ∈ idsN L
  snk : ∀ s y, findN L s = some y → y.kind = 2 → a.C s = some (wrap64 (cntS s a.out : Int))
theorem cntU_dom {L : List Nd} {C : Int → Option Int} (h : ∀ q, C q ≠ none ↔ q ∈ idsN L) {c : Int} (hc : c ∈ idsN L) (q : Int) : cntU C c q ≠ none ↔ q ∈ idsN L := by
  unfold cntU
  by_cases e : q = c
  · rw [if_pos e, e]
    exact ⟨fun _ => hc, fun _ => by simp⟩
  · rw [if_neg e]
    exact h q
theorem come_ci {L : List Nd} (h : RightG L) {put : Int → Int → Int × Int → DS → DS} (hp : ∀ id key v S, CI L S → CI L (put id key v S)) {frm c : Int} (hc : c ∈ childN L frm) (key : Int) (v : Int × Int) {S : DS} (hS : CI L S) : CI L (comeD L put frm c key v S) := by
  obtain ⟨x, hx, e, hf, h0, hfr⟩ := child_node h hc
  have hid : c ∈ idsN L := List.mem_map.2 ⟨x, hx, e⟩
  unfold comeD
  rw [hf]
  simp only
  by_cases hk : x.kind = 2
  · rw [if_pos hk]
    refine ⟨fun y hy => ?_, cntU_dom hS.dom hid, fun s y hy h2 => ?_⟩
    · rcases List.mem_append.1 hy with hy | hy
      · exact hS.ln y hy
      · rw [List.mem_singleton] at hy
        subst hy
        exact ⟨hc, x, hf, hk⟩
    · show cntU S.C c s = some (wrap64 (cntS s (S.out ++ [lnF c frm key v.1 v.2]) : Int))
      rw [cntS_snoc]
      have h1 := hS.snk s y hy h2
      unfold cntU
      by_cases e2 : s = c
      · rw [if_pos e2, ← e2, h1, show lnF s frm key v.1 v.2 0 = s from rfl, if_pos rfl, Option.getD_some, wrap_succ]
      · rw [if_neg e2, h1, show lnF c frm key v.1 v.2 0 = c from rfl, if_neg (fun e => e2 e.symm), Nat.add_zero]
  · rw [if_neg hk]
    refine foldl_ind (CI L) _ _ _ ⟨hS.ln, cntU_dom hS.dom hid, fun s y hy h2 => ?_⟩ fun s u _ h => hp _ _ _ _ h
    show cntU S.C c s = some (wrap64 (cntS s S.out : Int))
    unfold cntU
    rw [if_neg (fun e2 => by rw [e2, hf] at hy; injection hy with hy; exact hk (by rw [hy]; exact h2))]
    exact hS.snk s y hy h2
theorem put_ci {L : List Nd} (h : RightG L) : ∀ (d : Nat) (id key : Int) (v : Int × Int) (S : DS), CI L S → CI L (putD L d id key v S)
  | 0, _, _, _, _, hS => hS
  | d + 1, id, key, v, S, hS => by
    unfold putD
    exact foldl_ind (CI L) _ _ _ hS fun s c hc hs => come_ci h (put_ci h d) hc key v hs
theorem put_zero {L : List Nd} (h : RightG L) : ∀ (d : Nat) (id key : Int) (v : Int × Int) (S : DS), (putD L d id key v S).C 0 = S.C 0
  | 0, _, _, _, _ => rfl
  | d + 1, id, key, v, S => by
    unfold putD
    refine foldl_ind (fun s : DS => s.C 0 = S.C 0) _ _ _ rfl fun s c hc hs => ?_
    obtain ⟨x, hx, e, hf, h0, hfr⟩ := child_node h hc
    have hu : cntU s.C c 0 = S.C 0 := by
      unfold cntU
      rw [if_neg (fun e => h0 e.symm)]
      exact hs
    unfold comeD
    rw [hf]
    simp only
    split
    · exact hu
    · exact foldl_ind (fun s : DS => s.C 0 = S.C 0) _ _ _ hu fun s u _ h2 => by rw [put_zero h d]; exact h2
/-- All sinks below a node get as many more. -/
def EvenD (L : List Nd) (a b : DS) : Prop := ∃ g : Int → Nat, ∀ f s y, s ∈ childN L f → findN L s = some y → y.kind = 2 → cntF s f b.out = cntF s f a.out + g f
theorem EvenD.refl (L : List Nd) (a : DS) : EvenD L a a := ⟨fun _ => 0, fun _ _ _ _ _ _ => rfl⟩
theorem EvenD.trans {L : List Nd} {a b c : DS} (h : EvenD L a b) (g : EvenD L b c) : EvenD L a c := by
  obtain ⟨g1, h1⟩ := h
  obtain ⟨g2, h2⟩ := g
  exact ⟨fun f => g1 f + g2 f, fun f s y a b c => by rw [h2 f s y a b c, h1 f s y a b c]; simp only; omega⟩
theorem fold_even {L : List Nd} (h : RightG L) {put : Int → Int → Int × Int → DS → DS} (hp : ∀ id key v S, EvenD L S (put id key v S)) (id key : Int) (v : Int × Int) : ∀ (cs : List Int) (S : DS), (∀ c ∈ cs, c ∈ childN L id) →
    ∃ g : Int → Nat, ∀ f s y, s ∈ childN L f → findN L s = some y → y.kind = 2 → cntF s f (cs.foldl (fun s c => comeD L put id c key v s) S).out = cntF s f S.out + g f + (if f = id then cs.count s else 0)
  | [], S, _ => ⟨fun _ => 0, fun f s y _ _ _ => by simp⟩
  | c :: cs, S, hc => by
    obtain ⟨g, hg⟩ := fold_even h hp id key v cs (comeD L put id c key v S) fun c' h' => hc c' (by simp [h'])
    obtain ⟨x, hx, e, hf, h0, hfr⟩ := child_node h (hc c (by simp))
    by_cases hk : x.kind = 2
    · refine ⟨g, fun f s y h1 h2 h3 => ?_⟩
      rw [List.foldl_cons, hg f s y h1 h2 h3]
      have hco : comeD L put id c key v S = ⟨S.T, S.out ++ [lnF c id key v.1 v.2], cntU S.C c⟩ := by
        unfold comeD
        rw [hf]
        simp only
        rw [if_pos hk]
      rw [hco]
      simp only
      rw [cntF_snoc, List.count_cons, show lnF c id key v.1 v.2 0 = c from rfl, show lnF c id key v.1 v.2 1 = id from rfl]
      by_cases e1 : f = id
      · rw [if_pos e1, if_pos e1]
        by_cases e2 : c = s
        · rw [if_pos ⟨e2, e1.symm⟩, e2]
          simp
          omega
        · rw [if_neg (fun h => e2 h.1)]
          have : (c == s) = false := by rw [beq_eq_false_iff_ne]; exact e2
          rw [this]
          simp
      · rw [if_neg e1, if_neg e1, if_neg (fun h => e1 h.2.symm)]
        omega
    · have hev : EvenD L S (comeD L put id c key v S) := by
        unfold comeD
        rw [hf]
        simp only
        rw [if_neg hk]
        exact foldl_ind (fun s => EvenD L S s) _ _ _ ⟨fun _ => 0, fun _ _ _ _ _ _ => rfl⟩ fun s u _ h => h.trans (hp _ _ _ _)
      obtain ⟨g2, hg2⟩ := hev
      refine ⟨fun f => g2 f + g f, fun f s y h1 h2 h3 => ?_⟩
      rw [List.foldl_cons, hg f s y h1 h2 h3, hg2 f s y h1 h2 h3, List.count_cons]
      have : (c == s) = false := by
        rw [beq_eq_false_iff_ne]
        intro e2
        rw [e2, h2] at hf
        injection hf with hf
        exact hk (by rw [← hf]; exact h3)
      rw [this]
      simp
      omega
theorem put_even {L : List Nd} (h : RightG L) : ∀ (d : Nat) (id key : Int) (v : Int × Int) (S : DS), EvenD L S (putD L d id key v S)
  | 0, _, _, _, S => EvenD.refl L S
  | d + 1, id, key, v, S => by
    unfold putD
    obtain ⟨g, hg⟩ := fold_even h (put_even h d) id key v (childN L id) S fun _ h => h
    have hnd : (childN L id).Nodup := (childN_rises L id).imp (fun h e => by omega)
    refine ⟨fun f => g f + if f = id then 1 else 0, fun f s y h1 h2 h3 => ?_⟩
    rw [hg f s y h1 h2 h3]
    simp only
    by_cases e : f = id
    · rw [if_pos e, if_pos e, ← e, List.Nodup.count (by rw [e]; exact hnd), if_pos h1]
      omega
    · rw [if_neg e, if_neg e]
      omega
theorem flow_even {L : List Nd} (h : RightG L) (l : List (Nat → Int)) (S : DS) : EvenD L S (flowD L l S) := by
  unfold flowD
  refine foldl_ind (fun s => EvenD L S s) _ _ _ (EvenD.refl L S) fun s x _ hs => hs.trans ?_
  exact put_even h 8 0 (x 0) (x 1, x 2) ⟨s.T, s.out, cntU s.C 0⟩
theorem zero_src {L : List Nd} (h : RightG L) {y : Nd} (hy : findN L 0 = some y) : y.kind ≠ 2 := by
  have h1 := (kindB_zero (nodeB_iff.1 (h.each y (findN_mem hy))).2.2.1).1 (findN_id hy)
  rw [h1]
  decide
theorem one_ci {L : List Nd} (h : RightG L) {S : DS} (hS : CI L S) (x : Nat → Int) : CI L (oneD L S x) := by
  refine put_ci h 8 0 _ _ _ ⟨hS.ln, cntU_dom hS.dom h.zero, fun s y hy h2 => ?_⟩
  show cntU S.C 0 s = _
  unfold cntU
  rw [if_neg (fun e => zero_src h (by rw [← e]; exact hy) h2)]
  exact hS.snk s y hy h2
theorem flow_ci {L : List Nd} (h : RightG L) (l : List (Nat → Int)) {S : DS} (hS : CI L S) : CI L (flowD L l S) := by
  unfold flowD
  exact foldl_ind (CI L) _ _ _ hS fun s x _ hs => one_ci h hs x
theorem flow_zero {L : List Nd} (h : RightG L) : ∀ (l : List (Nat → Int)) (S : DS) (n : Nat), S.C 0 = some (wrap64 (n : Int)) → (flowD L l S).C 0 = some (wrap64 ((n + l.length : Nat) : Int))
  | [], S, n, hS => hS
  | x :: l, S, n, hS => by
    show (flowD L l (oneD L S x)).C 0 = _
    rw [flow_zero h l (oneD L S x) (n + 1)]
    · congr 3
      rw [List.length_cons]
      omega
    · unfold oneD
      rw [put_zero h]
      show cntU S.C 0 0 = _
      unfold cntU
      rw [if_pos rfl, hS, Option.getD_some, wrap_succ]
theorem cnt0_ci {L : List Nd} (T : Pk → CV) : CI L ⟨T, [], cnt0 L⟩ := by
  refine ⟨fun _ h => (by cases h), fun q => ?_, fun s y hy h2 => ?_⟩
  · show cnt0 L q ≠ none ↔ _
    unfold cnt0
    by_cases e : q ∈ idsN L <;> simp [e]
  · show cnt0 L s = _
    unfold cnt0
    rw [if_pos (findN_ids.1 ⟨y, hy⟩)]
    have e1 : wrap64 ((cntS s [] : Nat) : Int) = 0 := wrap_nat (n := 0) (by omega)
    exact congrArg some e1.symm
/-- What Counts says of the lines. -/
structure CntOk (L : List Nd) (n : Nat) (out : List (Nat → Int)) (C : Int → Option Int) : Prop where
  dom : ∀ q, C q ≠ none ↔ q ∈ idsN L
  snk : ∀ s y, findN L s = some y → y.kind = 2 → C s = some (cntS s out : Int)
  even : ∀ f a b, cntF a f out ≠ 0 → cntF b f out ≠ 0 → cntF a f out = cntF b f out
  src : C 0 = some (n : Int)
theorem flow_cnt {L : List Nd} (h : RightG L) (l : List (Nat → Int)) (T : Pk → CV) (hl : l.length ≤ 1000000000) (hb : (flowD L l ⟨T, [], cnt0 L⟩).out.length ≤ 9000000000000000000) : CntOk L l.length (flowD L l ⟨T, [], cnt0 L⟩).out (flowD L l ⟨T, [], cnt0 L⟩).C := by
  have h1 := flow_ci h l (cnt0_ci (L := L) T)
  refine ⟨h1.dom, fun s y hy h2 => ?_, fun f a b ha hb' => ?_, ?_⟩
  · rw [h1.snk s y hy h2, wrap_nat (Nat.le_trans (cntS_le _ _) hb)]
  · obtain ⟨g, hg⟩ := flow_even h l ⟨T, [], cnt0 L⟩
    obtain ⟨x, hx, hx0, hx1⟩ := cntF_pos ha
    obtain ⟨z, hz, hz0, hz1⟩ := cntF_pos hb'
    obtain ⟨k1, y1, k2, k3⟩ := h1.ln x hx
    obtain ⟨k4, y2, k5, k6⟩ := h1.ln z hz
    rw [hx0, hx1] at k1
    rw [hx0] at k2
    rw [hz0, hz1] at k4
    rw [hz0] at k5
    rw [hg f a y1 k1 k2 k3, hg f b y2 k4 k5 k6]
    rfl
  · have := flow_zero h l ⟨T, [], cnt0 L⟩ 0 (by show cnt0 L 0 = _; unfold cnt0; rw [if_pos h.zero]; exact congrArg some (wrap_nat (n := 0) (by omega)).symm)
    rw [this, Nat.zero_add, wrap_nat (by omega)]
end Go.Proofs.YthfibggbipkmfaaGreat
namespace Go.Proofs.YthfibggbipkmfaaGreat
open Go.RowKit Go.Fb
/-- A row of nodes with one more. -/
theorem nds_app {w : World} {base B n c : Nat} {A : Option Addr} {M : List Ndm} (ho : w.ownsRow base 49 13 (.slice A n c) n (cellsN M)) (hi : ∀ m ∈ M, NdIn w B m) (hB : w.heap.size ≤ B) (hn : n = M.length) : Nds w B A n M :=
  ⟨hn, (Reads.of_own ho).more hB, hi⟩
theorem nowns_empty (w : World) : (w.alloc (.cells #[] 49)).ownsRow w.heap.size 49 13 (.slice (some ⟨w.heap.size, 0, none⟩) 0 0) 0 [] := by
  refine ⟨rfl, .inr ⟨w.heap.size, 0, #[], rfl, Nat.le_refl _, Blk.new _ _ _, ?_⟩⟩
  simp
theorem cellsN_one {M : List Ndm} (h : ∀ m ∈ M, SlN m) : ∀ u ∈ cellsN M, u.oneCell' = true := by
  intro u hu
  obtain ⟨m, hm, hu⟩ := List.mem_flatMap.1 hu
  obtain ⟨A, n, c, P, q, d, e1, e2⟩ := h m hm
  obtain ⟨x, sf, sp⟩ := m
  simp only at e1 e2
  subst e1
  subst e2
  exact ndOne u hu
theorem NdIn.sl {w : World} {B : Nat} {m : Ndm} (h : NdIn w B m) : SlN m := by
  obtain ⟨⟨A, c, h1, _⟩, ⟨A', c', h3, _⟩⟩ := h
  exact ⟨A, _, c, A', _, c', h1, h3⟩
theorem cellsN_take {M : List Ndm} {k : Nat} {u : Value} (h : u ∈ cellsN (M.take k)) : u ∈ cellsN M := by
  obtain ⟨m, hm, hu⟩ := List.mem_flatMap.1 h
  exact List.mem_flatMap.2 ⟨m, List.mem_of_mem_take hm, hu⟩
theorem cellsN_drop {M : List Ndm} {k : Nat} {u : Value} (h : u ∈ cellsN (M.drop k)) : u ∈ cellsN M := by
  obtain ⟨m, hm, hu⟩ := List.mem_flatMap.1 h
  exact List.mem_flatMap.2 ⟨m, List.mem_of_mem_drop hm, hu⟩
/-- What stands ahead of a node, and behind it. -/
theorem nds_cut {w : World} {B n b off : Nat} {M : List Ndm} (h : Nds w B (some ⟨b, off, none⟩) n M) {k : Nat} (hk : k < n) :
    Reads w B 13 (some ⟨b, off, none⟩) k (cellsN (M.take k)) ∧ Reads w B 13 (some ⟨b, off + (k + 1) * 13, none⟩) (n - (k + 1)) (cellsN (M.drop (k + 1))) := by
  obtain ⟨b2, off2, e, hb, hc⟩ := h.rd.2 (by omega)
  injection e with e
  injection e with e1 e2 _
  subst e1
  subst e2
  have hn := h.num
  refine ⟨⟨by rw [cellsN_length, List.length_take]; congr 1; omega, fun _ => ⟨b, off, rfl, hb, fun j u hu => ?_⟩⟩, ⟨by rw [cellsN_length, List.length_drop, ← hn], fun _ => ⟨b, _, rfl, hb, fun j u hu => ?_⟩⟩⟩
  · refine hc j u ?_
    have e : cellsN M = cellsN (M.take k) ++ cellsN (M.drop k) := by rw [← cellsN_app, List.take_append_drop]
    rw [e, List.getElem?_append_left (by rcases Nat.lt_or_ge j (cellsN (M.take k)).length with h | h; exact h; rw [List.getElem?_eq_none h] at hu; cases hu)]
    exact hu
  · rw [Nat.add_assoc]
    refine hc _ u ?_
    have e : cellsN M = cellsN (M.take (k + 1)) ++ cellsN (M.drop (k + 1)) := by rw [← cellsN_app, List.take_append_drop]
    have hl : (cellsN (M.take (k + 1))).length = (k + 1) * 13 := by rw [cellsN_length, List.length_take]; congr 1; omega
    rw [e, List.getElem?_append_right (by omega), hl, Nat.add_sub_cancel_left]
    exact hu
end Go.Proofs.YthfibggbipkmfaaGreat
