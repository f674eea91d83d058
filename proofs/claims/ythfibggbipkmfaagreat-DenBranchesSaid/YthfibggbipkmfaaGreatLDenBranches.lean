/- forebaylaw12.DenBranches: for every input the call returns true, and each argument reads behind it as it read before. The walk lies in the text that this one imports; here it is lifted to the given row. -/
import Derived.Test.YthfibggbipkmfaaGreatDX24
import Derived.Test.YthfibggbipkmfaaGreatDX25
import Derived.Test.YthfibggbipkmfaaGreatDX20
import Derived.Test.YthfibggbipkmfaaGreatDenBranchesJf
import Derived.Test.YthfibggbipkmfaaGreatDX7
import Derived.Test.YthfibggbipkmfaaGreatDX18
namespace Go.Proofs.YthfibggbipkmfaaGreat
open Go.RowKit Go.Fb
set_option linter.unusedVariables false
theorem butS_snoc (s : Int) {l : List (Nat → Int)} {k : Nat} {x : Nat → Int} (hx : l[k]? = some x) : butS s (l.take (k + 1)) = if x 0 = s then butS s (l.take k) else butS s (l.take k) ++ [x] := by
  rw [List.take_add_one, hx, Option.toList_some, butS_app]
  unfold butS
  by_cases e : x 0 = s
  · rw [if_pos e, List.filter_cons_of_neg (by simpa using e), List.filter_nil, List.append_nil]
  · rw [if_neg e, List.filter_cons_of_pos (by simpa using e), List.filter_nil]
theorem butS_le (s : Int) (l : List (Nat → Int)) : (butS s l).length ≤ l.length := List.length_filter_le _ _
theorem lnOne (x : Nat → Int) : ∀ u ∈ [Value.int .i64 (x 0), .int .i64 (x 1), .int .i64 (x 2), .int .i64 (x 3), .int .i64 (x 4)], u.oneCell' = true := by simp [Value.oneCell']
set_option maxRecDepth 100000 in
set_option maxHeartbeats 16000000 in
theorem walk_DenBranches (A : Option Addr) (n c : Nat) (M : List Ndm) (hn : n ≤ maxLen) (hnc : n ≤ c) (Ar : Option Addr) (nr cr : Nat) (R : List (Nat → Int)) (hl : nr = R.length) (hm : nr ≤ maxLen) (at' : Int) (hat : 0 ≤ at' ∧ at' ≤ 255) (w : World) (h : Nds w w.heap.size A n M) (hr : Reads w w.heap.size 3 Ar nr (cellsR R)) :
    Calls Tryz.prog 6 #[.slice A n c, .slice Ar nr cr, .int .u8 at'] w fun e w' => e = .returned (.bool true) ∧ Below w.heap.size w w' := by
  have HM := Lib.hid (fun (wx : World) (hx : Fr w.heap.size [] w wx) => (h.frw hx (Nat.le_refl _) (by simp) : Nds wx w.heap.size A n M))
  have HRD := Lib.hid (fun (wx : World) (hx : Fr w.heap.size [] w wx) => (hr.fr hx (Nat.le_refl _) (by simp) : Reads wx w.heap.size 3 Ar nr (cellsR R)))
  have HL := Lib.hid hl
  have HNUM := Lib.hid h.num
  have HAW := Lib.hid (awake12_any w)
  clear h hr hl
  go_enter Tryz.func6, Tryz.ntmps6
  go_wp2_with fail
  refine HAW.out.mono ?_
  rintro e w1 ⟨rfl, f1⟩
  have fa := (Fr.refl w1.heap.size [] w1).alloc (Nat.le_refl _) (.cells #[.slice none 0 0, .slice Ar nr cr] 28)
  have BS := Blk.new w1 28 #[.slice none 0 0, .slice Ar nr cr]
  have F1 := Lib.hid f1
  have FA := Lib.hid (f1.trans (fa.mono (B' := w.heap.size) (L' := []) f1.size (by simp)))
  have HGR := Lib.hid (great12_any A (some ⟨w1.heap.size, 0, none⟩) c 1 (w1.alloc (.cells #[.slice none 0 0, .slice Ar nr cr] 28)).heap.size n 1 M [⟨[], R, .slice none 0 0, .slice Ar nr cr⟩] _ ((HM.out _ FA.out).more FA.out.size) (Nat.le_refl _) hn (sgs_one BS HL.out (HRD.out _ FA.out) FA.out.size) (by intro z hz; rw [List.mem_singleton] at hz; subst hz; exact ⟨Nat.zero_le _, by simp only; rw [← HL.out]; exact hm⟩))
  clear f1 fa BS HAW
  go_wp2_with fail
  refine HGR.out.mono ?_
  rintro e w2 ⟨⟨g, rfl, hg⟩, f2⟩
  have F2 := Lib.hid (FA.out.trans (f2.mono (B' := w.heap.size) (L' := []) FA.out.size (by simp)))
  have HG := Lib.hid hg
  clear f2 hg HGR FA F1
  cases g with
  | true =>
    go_wp2_with fail
    go_ret
    exact ⟨rfl, F2.out.below⟩
  | false => ?_
  have hgi := HG.out rfl
  obtain ⟨hsm, hsg, hM20⟩ := hgi.small
  have hr40 : nr ≤ 40 := by rw [HL.out]; exact (hgi.2.2 ⟨[], R, .slice none 0 0, .slice Ar nr cr⟩ (by simp)).2
  have hn20 : n ≤ 20 := by rw [HNUM.out]; exact hM20
  have HSM := Lib.hid hsm
  have HCK := Lib.hid (gcheck_any A c w.heap.size n M w2 (HM.out w2 F2.out) F2.out.size hsm)
  obtain ⟨cv, hcv⟩ : ∃ v, v = checkN (fstN M) := ⟨_, rfl⟩
  rw [← hcv] at HCK
  have HCV := Lib.hid hcv
  clear hgi hsm hsg hM20 HG hn hm hcv
  go_wp2_with fail
  refine HCK.out.mono ?_
  rintro e w3 ⟨rfl, f3⟩
  have F3 := Lib.hid (F2.out.trans (f3.mono (B' := w.heap.size) (L' := []) F2.out.size (by simp)))
  clear f3 HCK F2
  by_cases hc0 : cv = 0
  case neg =>
    go_wp2_with fail
    go_ret
    exact ⟨rfl, F3.out.below⟩
  have HRG := Lib.hid (checkN_zero.1 (HCV.out.symm.trans hc0) : RightG (fstN M))
  subst hc0
  clear HCV
  by_cases hn2 : n < 2
  case pos =>
    have hd1 : (n : Int) < 2 := by omega
    go_wp2_with fail
    go_ret
    exact ⟨rfl, F3.out.below⟩
  obtain ⟨k, hk⟩ : ∃ k : Nat, k = at'.toNat % n := ⟨_, rfl⟩
  have hkn : k < n := by rw [hk]; exact Nat.mod_lt _ (by omega)
  have htm : at'.tmod (n : Int) = (k : Int) := by
    have e1 : ((at'.toNat % n : Nat) : Int) = (at'.toNat : Int) % (n : Int) := Int.natCast_emod _ _
    rw [hk, Int.tmod_eq_emod_of_nonneg hat.1, e1, Int.toNat_of_nonneg hat.1]
  clear hk
  have hd1 : ¬ ((n : Int) < 2) := by omega
  have hne0 : ¬ ((n : Int) = 0) := by omega
  have hki : (k : Int) < (n : Int) := by omega
  have hk0 : (0 : Int) ≤ (k : Int) := by omega
  obtain ⟨mm, hmm⟩ : ∃ m, M[k]? = some m := ⟨_, List.getElem?_eq_getElem (by rw [← HNUM.out]; exact hkn)⟩
  obtain ⟨b1, o1, rfl, hb1, hc1⟩ := (HM.out w3 F3.out).get hmm
  obtain ⟨x, sf, sp⟩ := mm
  have HX := Lib.hid (show (fstN M)[k]? = some x by simp [fstN, hmm])
  obtain ⟨g0, g1, g2, g3, g4, g5, g6, g7, g8, g9, g10, g11, g12⟩ := ndL_get (x, sf, sp)
  have p0 := hc1 0 _ g0
  have p1 := hc1 1 _ g1
  have HP0 := Lib.hid (fun (wx : World) (hx : Fr w.heap.size [] w wx) => (by
    obtain ⟨b2, o2, e2, _, hc2⟩ := (HM.out wx hx).get hmm
    injection e2 with e2
    injection e2 with e2 e3
    rw [e2, e3]
    exact hc2 0 _ g0 : wx.cell? ⟨b1, o1 + k * 13 + 0, none⟩ = some (.int .i64 x.id)))
  simp only [Nat.add_zero] at p0 HP0
  clear hc1 hmm g0 g1 g2 g3 g4 g5 g6 g7 g8 g9 g10 g11 g12
  by_cases hk2 : x.kind = 2
  case neg =>
    have hb1 : (x.kind != 2) = true := by simpa using hk2
    go_wp2_with fail
    go_ret
    exact ⟨rfl, F3.out.below⟩
  rw [hk2] at p1
  go_upto_region 8 with fail
  clear p0 p1
  obtain ⟨X0, hX0⟩ : ∃ X0 : GS, X0 = ⟨normL (fstN M), fun _ => c0, []⟩ := ⟨_, rfl⟩
  obtain ⟨X1, hX1⟩ : ∃ X1 : GS, X1 = ⟨normL ((fstN M).take k ++ (fstN M).drop (k + 1)), fun _ => c0, []⟩ := ⟨_, rfl⟩
  obtain ⟨hme, hmr⟩ := branch_same HRG.out HX.out hk2 R (fun _ => c0)
  rw [← hX0, ← hX1] at hme hmr
  have HFW := Lib.hid (show (segsG [([], R)] X0).2.out.length ≤ 1073741000 by refine Nat.le_trans (recs_few (by rw [hX0]; exact TOk.zero) (by rw [hX0])) ?_; have h1 := HL.out; omega)
  have HSX := Lib.hid (fun (A1 : Option Addr) (n1 c1 : Nat) (M1 : List Ndm) (hM1 : Small M1) (hn1 : n1 ≤ 20) (gs : Nat) (wx : World) (hx : Fr w.heap.size [] w wx) (hnd : Nds wx wx.heap.size A1 n1 M1) (hbs : Blk wx gs 28 #[.slice none 0 0, .slice Ar nr cr]) => (by
    have hs1 : Sgs wx wx.heap.size (some ⟨gs, 0, none⟩) 1 [⟨[], R, .slice none 0 0, .slice Ar nr cr⟩] := by
      refine ⟨rfl, (Reads.of_blk hbs (by rfl)).more hbs.lt, fun z hz => ?_⟩
      rw [List.mem_singleton] at hz
      subst hz
      exact ⟨⟨none, 0, rfl, ⟨rfl, Reads.none_, by simp⟩⟩, ⟨Ar, cr, by simp only; rw [HL.out], by simp only; rw [← HL.out]; exact (HRD.out wx hx).more hx.size⟩⟩
    have h1 := segs_any A1 (some ⟨gs, 0, none⟩) c1 1 wx.heap.size n1 1 M1 [⟨[], R, .slice none 0 0, .slice Ar nr cr⟩] wx hnd (Nat.le_refl _) hM1 hn1 hs1 (by intro z hz; rw [List.mem_singleton] at hz; subst hz; exact ⟨(by intro m hm; cases hm), Nat.zero_le _, by simp only; rw [← HL.out]; omega⟩) (by omega)
    rw [show bare [⟨[], R, .slice none 0 0, .slice Ar nr cr⟩] = [(([] : List Stp), R)] from rfl] at h1
    exact h1 : Calls Tryz.prog 18 #[.slice A1 n1 c1, .slice (some ⟨gs, 0, none⟩) 1 1] wx (SegsOut (segsG [([], R)] ⟨normL (fstN M1), fun _ => c0, []⟩) wx)))
  obtain ⟨E, hE⟩ : ∃ E, E = segsG [([], R)] X0 := ⟨_, rfl⟩
  obtain ⟨E2, hE2⟩ : ∃ E, E = segsG [([], R)] X1 := ⟨_, rfl⟩
  have fb := (Fr.refl w3.heap.size [] w3).alloc (Nat.le_refl _) (.cells #[.slice none 0 0, .slice Ar nr cr] 28)
  have BS := Blk.new w3 28 #[.slice none 0 0, .slice Ar nr cr]
  have FB := Lib.hid (F3.out.trans (fb.mono (B' := w.heap.size) (L' := []) F3.out.size (by simp)))
  have HSA := Lib.hid (by
    have h1 := HSX.out (some ⟨b1, o1, none⟩) n c M HSM.out hn20 w3.heap.size _ FB.out ((HM.out _ FB.out).more FB.out.size) BS
    rw [← hX0, ← hE] at h1
    exact h1 : Calls Tryz.prog 18 #[.slice (some ⟨b1, o1, none⟩) n c, .slice (some ⟨w3.heap.size, 0, none⟩) 1 1] (w3.alloc (.cells #[.slice none 0 0, .slice Ar nr cr] 28)) (SegsOut E (w3.alloc (.cells #[.slice none 0 0, .slice Ar nr cr] 28))))
  rw [← hE] at hme hmr HFW
  rw [← hE2] at hme hmr
  have HME := Lib.hid hme
  have HMR := Lib.hid hmr
  have HSX2 := Lib.hid (fun (A1 : Option Addr) (n1 c1 : Nat) (M1 : List Ndm) (hM1 : Small M1) (hn1 : n1 ≤ 20) (hf1 : fstN M1 = (fstN M).take k ++ (fstN M).drop (k + 1)) (gs : Nat) (wx : World) (hx : Fr w.heap.size [] w wx) (hnd : Nds wx wx.heap.size A1 n1 M1) (hbs : Blk wx gs 28 #[.slice none 0 0, .slice Ar nr cr]) => (by
    have h1 := HSX.out A1 n1 c1 M1 hM1 hn1 gs wx hx hnd hbs
    rw [hf1, ← hX1, ← hE2] at h1
    exact h1.mono fun e w' h => segs_uni h : Calls Tryz.prog 18 #[.slice A1 n1 c1, .slice (some ⟨gs, 0, none⟩) 1 1] wx (SegsU E2 wx)))
  clear hX0 hX1 hE hE2 hme hmr fb BS HSX
  go_wp2_with fail
  refine HSA.out.mono ?_
  rintro e w4 hso
  obtain ⟨Ao, no, co, A4, n4, c4', pt, rfl, hz4, hk4, f4⟩ : ∃ Ao no co A' n' c' p, e = .returned (.tuple #[.slice Ao no co, .slice A' n' c', .pointer p, .int .i64 E.1]) ∧ (E.1 ≠ 0 → no = 0) ∧ (E.1 = 0 → SegsK E.2 (w3.alloc (.cells #[.slice none 0 0, .slice Ar nr cr] 28)) Ao no co A' n' p w4) ∧ Fr (w3.alloc (.cells #[.slice none 0 0, .slice Ar nr cr] 28)).heap.size [] (w3.alloc (.cells #[.slice none 0 0, .slice Ar nr cr] 28)) w4 := by
    rcases hso with ⟨h1, h2, h3⟩ | ⟨h1, Ao, no, co, A', n', c', M', gt, gm, h2, h3, h4, h5, h6, h7, h8, h9, h10, h11⟩
    · exact ⟨none, 0, 0, none, 0, 0, none, h2, fun _ => rfl, fun h => absurd h h1, h3⟩
    · exact ⟨Ao, no, co, A', n', c', _, by rw [h1]; exact h2, fun h => absurd h1 h, fun _ => ⟨⟨M', gt, gm, rfl, h4, h5, h6, h7, h9, h10⟩, h3, h8⟩, h11⟩
  have HZ4 := Lib.hid hz4
  have HK4 := Lib.hid hk4
  have F4 := Lib.hid (FB.out.trans (f4.mono (B' := w.heap.size) (L' := []) FB.out.size (by simp)))
  clear hz4 hk4 f4 hso HSA FB
  go_upto_region 9 with fail
  generalize w3.alloc (.cells #[.slice none 0 0, .slice Ar nr cr] 28) = wb at *
  have hwW : w.heap.size ≤ w4.heap.size := F4.out.size
  have hkc : (k : Int) ≤ (c : Int) := by omega
  have hk1n : (k : Int) + 1 ≤ (n : Int) := by omega
  have hnc' : (n : Int) ≤ (c : Int) := by omega
  have hk01 : (0 : Int) ≤ (k : Int) + 1 := by omega
  have hwr : IntKind.i64.wrap ((k : Int) + 1) = (k : Int) + 1 := by rw [IntKind.wrap_i64]; omega
  have HOW := Lib.hid (show (w4.alloc (.cells #[] 49)).drew.ownsRow w4.heap.size 49 13 (.slice (some ⟨w4.heap.size, 0, none⟩) 0 0) 0 [] from nowns_empty w4)
  have fw := ((Fr.refl w4.heap.size [] w4).alloc (Nat.le_refl _) (.cells #[] 49)).drew
  have HFW4 := Lib.hid fw
  have FW4 := F4.out.trans (fw.mono (B' := w.heap.size) (L' := []) F4.out.size (by simp))
  have hone := Lib.hid (cellsN_one (M := M) fun m hm => ((HM.out w3 F3.out).inn m hm).sl)
  obtain ⟨Ad, had⟩ : ∃ Ad : Option Addr, Ad = if c = k + 1 then some ⟨b1, o1, none⟩ else some ⟨b1, o1 + (k + 1) * 13, none⟩ := ⟨_, rfl⟩
  have HCUT := Lib.hid (fun (wx : World) (hx : Fr w.heap.size [] w wx) => (by
    obtain ⟨RT, RD⟩ := nds_cut (HM.out wx hx) hkn
    refine ⟨RT, ?_⟩
    rw [had]
    split
    · have h0 : n - (k + 1) = 0 := by omega
      have hd : M.drop (k + 1) = [] := List.drop_eq_nil_of_le (by rw [← HNUM.out]; omega)
      rw [h0, hd]
      exact ⟨rfl, fun h => absurd h (by omega)⟩
    · exact RD : Reads wx w.heap.size 13 (some ⟨b1, o1, none⟩) k (cellsN (M.take k)) ∧ Reads wx w.heap.size 13 Ad (n - (k + 1)) (cellsN (M.drop (k + 1)))))
  have HNDX := Lib.hid (fun (wx : World) (hx : Fr w.heap.size [] w wx) (A7 : Option Addr) (c7 : Nat) (ho : wx.ownsRow w4.heap.size 49 13 (.slice A7 (n - 1) c7) (n - 1) (cellsN (M.take k) ++ cellsN (M.drop (k + 1)))) => (nds_app (by rw [cellsN_app]; exact ho) (fun m hm => by
      have hm2 : m ∈ M := by
        rcases List.mem_append.1 hm with h | h
        · exact List.mem_of_mem_take h
        · exact List.mem_of_mem_drop h
      exact (((HM.out wx hx).inn m hm2)).more hx.size) (Nat.le_refl _) (by have := HNUM.out; simp; omega) : Nds wx wx.heap.size A7 (n - 1) (M.take k ++ M.drop (k + 1))))
  have HSM2 := Lib.hid (show Small (M.take k ++ M.drop (k + 1)) from ⟨by have := HSM.out.1; have := HNUM.out; simp; omega, fun m hm => by
    have hm2 : m ∈ M := by
      rcases List.mem_append.1 hm with h | h
      · exact List.mem_of_mem_take h
      · exact List.mem_of_mem_drop h
    exact HSM.out.2 m hm2⟩)
  have HF13 := Lib.hid (show fstN (M.take k ++ M.drop (k + 1)) = (fstN M).take k ++ (fstN M).drop (k + 1) by simp [fstN])
  have RT := Lib.hid (HCUT.out _ FW4).1
  have HFWs := Lib.hid (HFW4.out.alloc HFW4.out.size (.cells #[.slice none 0 0, .slice Ar nr cr] 28))
  have HOWs := Lib.hid (HOW.out.alloc (.cells #[.slice none 0 0, .slice Ar nr cr] 28))
  have RTs := Lib.hid (HCUT.out _ (F4.out.trans (HFWs.out.mono (B' := w.heap.size) (L' := []) F4.out.size (by simp)))).1
  have BSs := Lib.hid (by have h := Blk.new (w4.alloc (.cells #[] 49)).drew 28 #[.slice none 0 0, .slice Ar nr cr]; rw [show (w4.alloc (.cells #[] 49)).drew.heap.size = w4.heap.size + 1 by simp] at h; exact h : Blk ((w4.alloc (.cells #[] 49)).drew.alloc (.cells #[.slice none 0 0, .slice Ar nr cr] 28)) (w4.heap.size + 1) 28 #[.slice none 0 0, .slice Ar nr cr])
  have HOWt := Lib.hid (by have h := nowns_empty (w4.alloc (.cells #[.slice none 0 0, .slice Ar nr cr] 28)).drew; rw [show (w4.alloc (.cells #[.slice none 0 0, .slice Ar nr cr] 28)).drew.heap.size = w4.heap.size + 1 by simp] at h; exact ownsRow_base h (Nat.le_succ _) : ((w4.alloc (.cells #[.slice none 0 0, .slice Ar nr cr] 28)).drew.alloc (.cells #[] 49)).ownsRow w4.heap.size 49 13 (.slice (some ⟨w4.heap.size + 1, 0, none⟩) 0 0) 0 [])
  have HFWt := Lib.hid ((((Fr.refl w4.heap.size [] w4).alloc (Nat.le_refl _) (.cells #[.slice none 0 0, .slice Ar nr cr] 28)).drew).alloc (by simp) (.cells #[] 49))
  have RTt := Lib.hid (HCUT.out _ (F4.out.trans (HFWt.out.mono (B' := w.heap.size) (L' := []) F4.out.size (by simp)))).1
  have BSt := Lib.hid (((Blk.new w4 28 #[.slice none 0 0, .slice Ar nr cr]).drew).alloc (.cells #[] 49))
  have HAD := Lib.hid had
  clear fw had
  go_cut [12, 13, 14, 15] (fun s12 s13 s14 s15 wx => ∃ Ao2 no2 co2 A2 n2 c2 p2, s12 = .slice Ao2 no2 co2 ∧ s13 = .slice A2 n2 c2 ∧ s14 = .pointer p2 ∧ s15 = .int .i64 E2.1 ∧ RowKit.Hid (E2.1 = 0 → SegsK E2.2 w4 Ao2 no2 co2 A2 n2 p2 wx) ∧ RowKit.Hid (Fr w4.heap.size [] w4 wx))
  case first =>
    first
      | (go_region_held3 (fun _ => True) (trivial) ((first
        | (refine step_app (by rfl) (.tmp 58) (.tmp 61) nodeTy (by rfl) w4.heap.size (.slice (some ⟨w4.heap.size, 0, none⟩) 0 0) 0 [] (by rfl) (by first | exact HOW.out | exact HOWs.out) w.heap.size _ k _ (cellsN (M.take k)) (by rfl) (by first | exact RT.out | exact RTs.out) (fun u hu => hone.out u (cellsN_take hu)) (by omega) (by omega) (by first | (simp; done) | (simp; omega)) ?_; intro A6 c6 w12 hown12 hg12 hat12; rw [Nat.zero_add] at hown12 hat12; simp only [Nat.zero_add]; rw [List.nil_append] at hown12; have f12 : Fr w4.heap.size [] w4 w12 := (by first | exact HFW4.out.grown hg12 (by simp) (fun q hq => .inl (by simp [Value.ownBlock] at hq; omega)) | exact HFWs.out.grown hg12 (by first | (simp; done) | (simp; omega)) (fun q hq => .inl (by simp [Value.ownBlock] at hq; omega))); have RD2 := Lib.hid (HCUT.out w12 (F4.out.trans (f12.mono (B' := w.heap.size) (L' := []) hwW (by simp)))).2; have hs12 := f12.size; try (have BS12 := Lib.hid (BSs.out.grown hg12 (by intro e; simp [Value.ownBlock] at e))))
        | (refine step_app (by rfl) (.tmp 58) (.tmp 61) nodeTy (by rfl) w4.heap.size (.slice (some ⟨w4.heap.size + 1, 0, none⟩) 0 0) 0 [] (by rfl) HOWt.out w.heap.size _ k _ (cellsN (M.take k)) (by rfl) RTt.out (fun u hu => hone.out u (cellsN_take hu)) (by omega) (by omega) (by first | (simp; done) | (simp; omega)) ?_; intro A6 c6 w12 hown12 hg12 hat12; rw [Nat.zero_add] at hown12 hat12; simp only [Nat.zero_add]; rw [List.nil_append] at hown12; have f12 : Fr w4.heap.size [] w4 w12 := HFWt.out.grown hg12 (by first | (simp; done) | (simp; omega)) (fun q hq => .inl (by simp [Value.ownBlock] at hq; omega)); have RD2 := Lib.hid (HCUT.out w12 (F4.out.trans (f12.mono (B' := w.heap.size) (L' := []) hwW (by simp)))).2; have hs12 := f12.size; have BS12 := Lib.hid (BSt.out.grown hg12 (by intro e; simp [Value.ownBlock] at e)))
        | (refine step_app (by rfl) (.tmp 62) (.tmp 66) nodeTy (by rfl) w4.heap.size (.slice A6 k c6) k _ (by rfl) (by first | exact hown12 | exact hown12.alloc _) w.heap.size Ad (n - (k + 1)) _ (cellsN (M.drop (k + 1))) (by rw [HAD.out]; rfl) (by first | exact RD2.out | exact (HCUT.out _ (F4.out.trans ((f12.alloc f12.size (.cells #[.slice none 0 0, .slice Ar nr cr] 28)).mono (B' := w.heap.size) (L' := []) hwW (by simp)))).2) (fun u hu => hone.out u (cellsN_drop hu)) (by omega) (by omega) (by first | omega | (simp; omega)) ?_; intro A7 c7 w13 hown13 hg13 hat13; rw [show k + (n - (k + 1)) = n - 1 by omega] at hown13 hat13; rw [show k + (n - (k + 1)) = n - 1 by omega]; rw [← HAD.out]; have f13 : Fr w4.heap.size [] w4 w13 := (by first | exact f12.grown hg13 hs12 (fun q hq => .inl (hown12.lt q hq).1) | exact (f12.alloc f12.size (.cells #[.slice none 0 0, .slice Ar nr cr] 28)).grown hg13 (by first | omega | (simp; omega)) (fun q hq => .inl (hown12.lt q hq).1)))
        | (go_at_call 18; first
            | (have fs := f13.alloc f13.size (.cells #[.slice none 0 0, .slice Ar nr cr] 28); have F14 := F4.out.trans (fs.mono (B' := w.heap.size) (L' := []) F4.out.size (by simp)); have HN14 := HNDX.out _ F14 A7 c7 (hown13.alloc _); with_reducible refine (HSX2.out A7 (n - 1) c7 (M.take k ++ M.drop (k + 1)) HSM2.out (by omega) HF13.out w13.heap.size _ F14 HN14 (Blk.new w13 28 #[.slice none 0 0, .slice Ar nr cr])).mono ?_)
            | (have BS13 := Lib.hid ((Blk.new w12 28 #[.slice none 0 0, .slice Ar nr cr]).grown hg13 (by intro e; have h5 := (hown12.lt _ e.symm).2; omega)); have fs := f13; have F14 := F4.out.trans (fs.mono (B' := w.heap.size) (L' := []) F4.out.size (by simp)); have HN14 := HNDX.out _ F14 A7 c7 hown13; with_reducible refine (HSX2.out A7 (n - 1) c7 (M.take k ++ M.drop (k + 1)) HSM2.out (by omega) HF13.out _ _ F14 HN14 BS13.out).mono ?_)
            | (have BS13 := Lib.hid (BS12.out.grown hg13 (by intro e; rcases hat12 with e2 | e2 <;> (rw [e2] at e; exact absurd (Option.some.inj e) (by first | omega | (simp; done) | (simp; omega))))); have fs := f13; have F14 := F4.out.trans (fs.mono (B' := w.heap.size) (L' := []) F4.out.size (by simp)); have HN14 := HNDX.out _ F14 A7 c7 hown13; with_reducible refine (HSX2.out A7 (n - 1) c7 (M.take k ++ M.drop (k + 1)) HSM2.out (by omega) HF13.out _ _ F14 HN14 BS13.out).mono ?_)
           rintro e w14 ⟨Ao2, no2, co2, A2, n2, c2, p2, rfl, hk2, f14⟩; have HK2 := Lib.hid (fun h => (hk2 h).mono (w0 := w4) fs.size); have F15 := Lib.hid (fs.trans (f14.mono (B' := w4.heap.size) (L' := []) fs.size (by simp)))))))
      | fail
    all_goals
      go_wp2_with fail
      go_meet
      exact ⟨Ao2, no2, co2, A2, n2, c2, p2, rfl, rfl, rfl, rfl, HK2, F15⟩
  case rest =>
    obtain ⟨Ao2, no2, co2, A2, n2, c2, p2, rfl, rfl, rfl, rfl, HK2, F15⟩ := hcut
    clear HOW HFW4 HCUT HNDX HSM2 HF13 RT HFWs HOWs RTs BSs HOWt HFWt RTt BSt HAD HSX2 hone
    have FW := Lib.hid (F4.out.trans (F15.out.mono (B' := w.heap.size) (L' := []) hwW (by simp)))
    have h4c : w4.heap.size ≤ wc.heap.size := F15.out.size
    rw [← HME.out]
    obtain ⟨ee, hee⟩ : ∃ z, z = E.1 := ⟨_, rfl⟩
    rw [← hee] at HZ4 HK4 HMR ⊢
    have HK2 := Lib.hid (fun (h : ee = 0) => HK2.out (by rw [← HME.out, ← hee]; exact h))
    obtain ⟨O, hO⟩ : ∃ O, O = if ee = 0 then E.2.out else [] := ⟨_, rfl⟩
    have hno : no = O.length := by
      by_cases h0 : ee = 0
      · rw [hO, if_pos h0]
        exact lnlen (HK4.out h0).own
      · rw [hO, if_neg h0]
        exact HZ4.out h0
    have hnb : no ≤ 1073741000 := by
      by_cases h0 : ee = 0
      · rw [lnlen (HK4.out h0).own]
        exact HFW.out
      · rw [HZ4.out h0]
        exact Nat.zero_le _
    have HRO := Lib.hid (fun (wx : World) (hx : Fr wc.heap.size [] wc wx) => (by
      by_cases h0 : ee = 0
      · have h1 := (Reads.of_own (HK4.out h0).own).fr F15.out (Nat.le_refl _) (by simp)
        rw [hO, if_pos h0]
        exact h1.fr hx h4c (by simp)
      · rw [hO, if_neg h0, HZ4.out h0]
        exact ⟨rfl, fun h => absurd h (by omega)⟩ : Reads wx w4.heap.size 5 Ao no (cellsLn O)))
    have HO := Lib.hid hO
    have HNO := Lib.hid hno
    obtain ⟨xid, hxid⟩ : ∃ z, z = x.id := ⟨_, rfl⟩
    rw [← hxid] at HP0 HMR
    clear hee hO hno HZ4 HX hxid HFW HME
    go_wp2_with fail
    go_loopg [16, 18, 81] no (fun g s16 s18 s81 wr => ∃ (j m : Nat) (A' : Option Addr) (c' : Nat), j ≤ no ∧ g = no - j ∧ s81 = .int .i64 j ∧ s16 = .slice A' m c' ∧ (s18 = undef ∨ ∃ a, s18 = .pointer a) ∧ m ≤ j ∧ RowKit.Hid (m = (butS xid (O.take j)).length) ∧ RowKit.Hid (wr.ownsRow wc.heap.size 44 5 (.slice A' m c') m (cellsLn (butS xid (O.take j)))) ∧ RowKit.Hid (Fr wc.heap.size [] wc wr))
    case atStart => exact ⟨0, 0, none, 0, Nat.zero_le _, rfl, rfl, rfl, .inl rfl, Nat.le_refl _, Lib.hid rfl, Lib.hid (World.ownsRow_nil _ _ _ _), Lib.hid (Fr.refl _ _ _)⟩
    case round =>
      obtain ⟨j, m, A', c', hj, rfl, rfl, rfl, h18, hmj, HM1, HO1, FQ1⟩ := hrel
      have FWr := Lib.hid (FW.out.trans (FQ1.out.mono (B' := w.heap.size) (L' := []) FW.out.size (by simp)))
      by_cases hjn : j < no
      · have hji : (j : Int) < (no : Int) := by omega
        obtain ⟨y, hy⟩ : ∃ y, O[j]? = some y := ⟨_, List.getElem?_eq_getElem (by rw [← HNO.out]; exact hjn)⟩
        have hrl := HRO.out wr FQ1.out
        rw [HNO.out] at hrl
        obtain ⟨b2, off2, rfl, hb2, hcx⟩ := reads_ln hrl hy
        have p0 := hcx 0 (by omega)
        have p1 := hcx 1 (by omega)
        have p2' := hcx 2 (by omega)
        have p3 := hcx 3 (by omega)
        have p4 := hcx 4 (by omega)
        simp only [Nat.add_zero, ← Nat.add_assoc] at p0 p1 p2' p3 p4
        have HSN := butS_snoc xid hy
        clear hcx hy hrl
        go_upto_region 16 with fail
        have BX := Lib.hid (Blk.new wr 44 #[.int .i64 (y 0), .int .i64 (y 1), .int .i64 (y 2), .int .i64 (y 3), .int .i64 (y 4)])
        have fa := (Fr.refl wr.heap.size [] wr).alloc (Nat.le_refl _) (.cells #[.int .i64 (y 0), .int .i64 (y 1), .int .i64 (y 2), .int .i64 (y 3), .int .i64 (y 4)] 44)
        have HOa := Lib.hid (ownsRow_fr HO1.out fa (fun q hq => ⟨(HO1.out.lt q hq).2, by simp⟩))
        have FQa := Lib.hid (FQ1.out.trans (fa.mono (B' := wc.heap.size) (L' := []) FQ1.out.size (by simp)))
        have FWa := FWr.out.trans (fa.mono (B' := w.heap.size) (L' := []) FWr.out.size (by simp))
        clear fa HO1 FQ1 p0 p1 p2' p3 p4 hb2 h18 FWr
        generalize wr.alloc (.cells #[.int .i64 (y 0), .int .i64 (y 1), .int .i64 (y 2), .int .i64 (y 3), .int .i64 (y 4)] 44) = wb2 at *
        generalize wr.heap.size = gx at *
        have q0 := BX.out.drew.cell 0
        have q1 := HP0.out wb2.drew FWa.drew
        simp at q0
        go_cut [92] (fun s92 wx => s92 = .bool (y 0 != xid) ∧ wx = wb2.drew)
        case first =>
          go_region
          all_goals
            go_wp2_with fail
            go_meet
            exact ⟨rfl, rfl⟩
        case rest =>
          obtain ⟨rfl, rfl⟩ := hcut
          clear q0 q1
          have x0 := BX.out.drew.cell 0
          have x1 := BX.out.drew.cell 1
          have x2 := BX.out.drew.cell 2
          have x3 := BX.out.drew.cell 3
          have x4 := BX.out.drew.cell 4
          simp at x0 x1 x2 x3 x4
          have HOd := Lib.hid (show wb2.drew.ownsRow wc.heap.size 44 5 (.slice A' m c') m (cellsLn (butS xid (O.take j))) from HOa.out)
          have FQd := Lib.hid FQa.out.drew
          by_cases hyx : y 0 = xid
          · have hb1' : (y 0 != xid) = false := by simpa using hyx
            rw [if_pos hyx] at HSN
            have HSN := Lib.hid HSN
            rw [hb1']
            clear hyx hb1'
            go_wp2_with fail
            go_roundg (no - (j + 1))
            case measure => omega
            case rel => exact ⟨j + 1, m, A', c', by omega, rfl, by go_num, rfl, .inr ⟨_, rfl⟩, by omega, by rw [HSN.out]; exact HM1, by rw [HSN.out]; exact HOd, FQd⟩
          · have hb1' : (y 0 != xid) = true := by simpa using hyx
            rw [if_neg hyx] at HSN
            have HSN := Lib.hid HSN
            rw [hb1']
            clear hyx hb1'
            have hown := HOd.out
            have hsz := FQd.out.size
            go_wp2_with (at_builtin; refine wpList_app_lit _ rfl (.tmp 93) (.tmp 95) lineTy rfl wc.heap.size (.slice A' m c') m _ rfl hown 1 1 _ rfl rfl (lnOne y) (by omega) (by omega) hsz ?_; intro A3 c3 w6 hown3 hg3 hat3)
            have F6 := Lib.hid (FQd.out.trans (Fr.of_app hg3 hown hsz))
            have HO3 := Lib.hid hown3
            clear hown3 hg3 hat3 hown
            go_roundg (no - (j + 1))
            case measure => omega
            case rel => exact ⟨j + 1, m + 1, A3, c3, by omega, rfl, by go_num, rfl, .inr ⟨_, rfl⟩, by omega, by rw [HSN.out, List.length_append, ← HM1.out]; exact Lib.hid rfl, by rw [HSN.out, cellsLn_app, show cellsLn [y] = [.int .i64 (y 0), .int .i64 (y 1), .int .i64 (y 2), .int .i64 (y 3), .int .i64 (y 4)] by simp [cellsLn, lnC]]; exact HO3, F6⟩
      · obtain rfl : j = no := by omega
        by_cases he0 : ee = 0
        case neg =>
          have hne : (ee != 0) = true := by simpa using he0
          go_wp2_with fail
          go_ret
          exact ⟨rfl, FWr.out.below⟩
        case pos =>
          have htk : O.take j = E.2.out := by rw [HNO.out, List.take_length, HO.out, if_pos he0]
          rw [htk] at HM1 HO1
          have K1 := HK4.out he0
          have K2 := HK2.out he0
          obtain ⟨hTT, hOO⟩ := HMR.out he0
          subst he0
          clear HK4 HK2 HMR htk
          obtain ⟨⟨M1, gt, gm, hp1, hnd1, hf1, hs1, hct1, hgt1, hgm1⟩, ho1, hok1⟩ := K1
          obtain ⟨⟨M2, gt2, gm2, hp2, hnd2, hf2, hs2, hct2, hgt2, hgm2⟩, ho2, hok2⟩ := K2
          subst hp1
          subst hp2
          rw [hOO] at ho2
          rw [← hTT] at hct2
          have e2 := lnlen ho2
          have e12 : no2 = m := by rw [e2, HM1.out]
          subst e12
          have ho2w := ownsRow_fr ho2 FQ1.out (fun q hq => ⟨(ho2.lt q hq).2, by simp⟩)
          have HL1 := Lib.hid (lines_yes (c1 := co2) (c2 := c') e2 (Reads.of_own ho2w) (Reads.of_own HO1.out) (by omega))
          have hct1w := (hct1.keep F15.out).keep FQ1.out
          have hct2w := hct2.keep FQ1.out
          have HCA := Lib.hid (fun (wx : World) (hx : Fr wr.heap.size [] wr wx) => call_any gt gm E.2.T hok1 wx (hct1w.fr hx hct1w.bk.lt (by simp) hct1w.mp.lt (by simp)))
          have HCB := Lib.hid (fun (wx : World) (hx : Fr wr.heap.size [] wr wx) => call_any gt2 gm2 E.2.T hok1 wx (hct2w.fr hx hct2w.bk.lt (by simp) hct2w.mp.lt (by simp)))
          have h512 := allT_few E.2.T
          obtain ⟨la, hla⟩ : ∃ l, l = allT E.2.T := ⟨_, rfl⟩
          rw [← hla] at HCA HCB h512
          unfold EntsOut at HCA HCB
          clear ho1 ho2 hct1 hct2 hnd1 hnd2 hf1 hf2 hs1 hs2 hok1 hok2 ho2w hct1w hct2w e2 hla hTT hOO HO1 HM1
          go_wp2_with fail
          refine HL1.out.mono ?_
          rintro e w7 ⟨rfl, f7⟩
          have F7 := Lib.hid f7
          have HC5 := Lib.hid (HCA.out w7 f7)
          clear f7 HL1
          go_wp2_with fail
          refine HC5.out.mono ?_
          rintro e w8 ⟨Aa, ca, rfl, ra, _, _, f8⟩
          have F8 := Lib.hid (F7.out.trans (f8.mono (B' := wr.heap.size) (L' := []) F7.out.size (by simp)))
          have RA := Lib.hid ra
          have HC6 := Lib.hid (HCB.out w8 F8.out)
          clear f8 ra HC5 F7
          go_wp2_with fail
          refine HC6.out.mono ?_
          rintro e w9 ⟨Ab, cb, rfl, rb', _, _, f9⟩
          have F9 := Lib.hid (F8.out.trans (f9.mono (B' := wr.heap.size) (L' := []) F8.out.size (by simp)))
          have HSY := Lib.hid (same_yes (c1 := ca) (c2 := cb) (RA.out.fr f9 (Nat.le_refl _) (by simp)) rb' (by omega))
          clear f9 rb' HC6 F8 RA
          go_wp2_with fail
          refine HSY.out.mono ?_
          rintro e w10 ⟨rfl, f10⟩
          have FZ := Lib.hid (FWr.out.trans ((F9.out.trans (f10.mono (B' := wr.heap.size) (L' := []) F9.out.size (by simp))).mono (B' := w.heap.size) (L' := []) FWr.out.size (by simp)))
          clear f10
          go_wp2_with fail
          go_ret
          exact ⟨rfl, FZ.out.below⟩

end Go.Proofs.YthfibggbipkmfaaGreat
namespace Go.Proofs.YthfibggbipkmfaaGreat
open Go.ChangeShapes Go.WideShapes Go.ChangeAt Go.RowKit Go.Fb
set_option linter.unusedVariables false

theorem u8_in {x : Int} (h : (Lit.int .u8 x).wf = true) : 0 ≤ x ∧ x ≤ 255 := by
  have h2 : (decide ((IntKind.u8).min ≤ x) && decide (x ≤ (IntKind.u8).max)) = true := h
  rw [Bool.and_eq_true, decide_eq_true_eq, decide_eq_true_eq] at h2
  exact h2
set_option maxRecDepth 100000 in
theorem lifted_DenBranches (os : Os) (started : os.Started) (H : Type) (enc : TypeId × Value → H) :
    ReturnsInHanded {} Tryz.checked os 6 .any (Rows.denBranchesSpec.pre6 enc Tryz.prog Tryz.f6 Rows.denBranchesRow.domain false) (Rows.denBranchesSpec.post enc Tryz.prog Tryz.f6 false true false false) := by
  refine returnsInHanded_of_change (C := Tryz.checked) (show ownKnob Tryz.prog.godebug = none by kernel_rfl) started (by kernel_rfl) Tryz.func6
    (ChangeSpec.witness6 (enc := enc) (C := Tryz.checked) false ⟨#[], #[.slice none 0 0, .slice none 0 0, .int .u8 0], []⟩ 8 (by kernel_rfl) (by kernel_rfl) (by kernel_rfl) (by kernel_rfl)) ?_
  intro W base args ds gs before hval0 hW hcnd _
  have hval : ∀ (j : Nat) t v, Tryz.f6.params[j]? = some t → args[j]? = some v → Value.okWide Tryz.prog W .any base t v := hval0
  have hW' := hW
  obtain ⟨p, q, hA0, hV, rfl, hfz, hnd⟩ := hW
  have hA : DataW.TrodAll enc Tryz.prog W 0 (fun _ => true) true Tryz.f6.params.toList args.toList ds p := hA0
  rw [Tryz.params6] at hA hval
  obtain ⟨v0, vs0, d0, ds0, p0, q0, hargs, rfl, rfl, h0, r0'⟩ := trodAll_cons hA
  obtain ⟨v1, vs1, d1, ds1, p1, q1, rfl, rfl, rfl, h1, r1'⟩ := trodAll_cons r0'
  obtain ⟨v2, vs2, d2, ds2, p2, q2, rfl, rfl, rfl, h2, r2'⟩ := trodAll_cons r1'
  obtain ⟨rfl, rfl, rfl⟩ := trodAll_nil r2'
  obtain rfl : args = #[v0, v1, v2] := by cases args; simp_all
  obtain ⟨rfl, rfl⟩ := trodVars_none hV
  have k0 := h0
  have lt0 : ∀ x ∈ p0, x.block < W.heap.size := by obtain ⟨m, hm⟩ := k0; exact DataW.trod_lt m _ _ _ hm
  have k1 := h1
  have lt1 : ∀ x ∈ p1, x.block < W.heap.size := by obtain ⟨m, hm⟩ := k1; exact DataW.trod_lt m _ _ _ hm
  have k2 := h2
  have lt2 : ∀ x ∈ p2, x.block < W.heap.size := by obtain ⟨m, hm⟩ := k2; exact DataW.trod_lt m _ _ _ hm
  obtain ⟨A0, n0, c0, M0, rfl, l0, m0, r0, wf0⟩ := arg_nodes (hval 0 22 v0 rfl rfl) h0
  obtain ⟨A1, c1, e1, rfl, g1, m1, r1⟩ := arg_recs (hval 1 23 v1 rfl rfl) h1
  obtain ⟨x2, rfl, w2⟩ := arg_int Tryz.underlying5 (hval 2 5 v2 rfl rfl) h2
  clear hA0 hval0
  refine (walk_DenBranches A0 n0 c0 M0 (Nat.le_trans l0 m0) l0 A1 e1.length c1 e1 rfl (Nat.le_trans g1 m1) x2 (u8_in w2) W r0 r1).mono fun e W' ⟨he, bel⟩ => ?_
  subst he
  exact ⟨_, rfl, _, _, _, [], _, [], hW', trodAll_mk1 (shut_bool Tryz.underlying4 _), (trodAll_cons_mk (Below.trod (show laidOutB Tryz.prog = true by kernel_rfl) (by kernel_rfl) (of_decide_eq_true (by kernel_rfl)) k0 bel lt0) (trodAll_cons_mk (Below.trod (show laidOutB Tryz.prog = true by kernel_rfl) (by kernel_rfl) (of_decide_eq_true (by kernel_rfl)) k1 bel lt1) (trodAll_cons_mk (Below.trod (show laidOutB Tryz.prog = true by kernel_rfl) (by kernel_rfl) (of_decide_eq_true (by kernel_rfl)) k2 bel lt2) trodAll_mk0))), rfl, bel.frame _, fun h => by cases h⟩

theorem DenBranches_holds : Rows.DenBranchesSaid :=
  OpenClaim.holds_of_wide 6 Tryz.f6 rfl rfl rfl rfl rfl rfl rfl ⟨rfl, rfl, rfl, rfl, rfl⟩ rfl rfl rfl rfl rfl (by kernel_rfl) Tryz.func6 jf_DenBranches
    (of_decide_eq_true (by kernel_rfl)) (by unfold Func.isWrapper; first | (rw [if_pos (by decide +kernel)]; kernel_rfl) | (rw [if_neg (by decide +kernel)]; exact ⟨rfl, rfl⟩))
    (fun os started H enc _ => lifted_DenBranches os started H enc)
#print axioms DenBranches_holds
end Go.Proofs.YthfibggbipkmfaaGreat
