/- Texts merged into one, for the number of files a claim may have: Undo, PlR. -/
import Derived.Test.YtklhhcflpffojaaMApP
import Derived.Test.YtklhhcflpffojaaMI
import Derived.Test.YtklhhcflpffojaaMG
import Derived.Deep.DeepCutAuto
namespace Go.Proofs.Ytklhhcflpffojaa
open Go.RowKit Go.Fb
set_option linter.unusedVariables false
/-- The step that gives a node tasks and a route. -/
def mvS (id par : Int) (r : Nat → Int) : Stp := ⟨4, ⟨id, 0, par, [], [], r⟩, false⟩
set_option maxRecDepth 100000 in
set_option maxHeartbeats 1000000 in
theorem moved_any (id par : Int) (r : Nat → Int) (w : World) : Calls Try.prog 50 #[.int .i64 id, .int .i64 par, .agg #[.int .i64 (r 0), .int .i64 (r 1), .int .i64 (r 2), .int .i64 (r 3), .int .i64 (r 4), .int .i64 (r 5), .int .i64 (r 6), .int .i64 (r 7)]] w fun e w' => e = .returned (.agg (stV (mvS id par r) (.slice none 0 0) (.slice none 0 0))) ∧ Fr w.heap.size [] w w' := by
  go_enter Try.func50, Try.ntmps50
  go_wp2_with fail
  have b := Blk.new (w.alloc (.cells #[.int .i64 (r 0), .int .i64 (r 1), .int .i64 (r 2), .int .i64 (r 3), .int .i64 (r 4), .int .i64 (r 5), .int .i64 (r 6), .int .i64 (r 7)] 34)) 38 (stV (mvS id par r) (.slice none 0 0) (.slice none 0 0))
  rw [World.size_alloc] at b
  exact bodyPost_ret (results_cell_row rfl _ _ (w.heap.size + 1) 38 (stV (mvS id par r) (.slice none 0 0) (.slice none 0 0)) (0, 0) _ rfl b Try.underlying38 rfl (by kernel_rfl)) rfl ⟨rfl, ((Fr.refl w.heap.size [] w).alloc (Nat.le_refl _) _).alloc (by simp) _⟩
set_option maxRecDepth 100000 in
theorem undof_any (m : Stm) (y : Nd) (tf tp : Value) (g : Nat) (kd : Int) (rs : Bool) (w : World) (hb : Blk w g 38 (stA kd y rs tf tp)) :
    Calls Try.prog 57 #[.agg (stV m.1 m.2.1 m.2.2), .pointer (some ⟨g, 0, none⟩)] w fun e w' => e = .returned (.bool (decide (m.1.nd.id = y.id))) ∧ Fr w.heap.size [] w w' := by
  obtain ⟨⟨kd', x, rs'⟩, sf, sp⟩ := m
  have BX := Lib.hid (Blk.new w 38 (stA kd' x rs' sf sp))
  have F1 := Lib.hid ((Fr.refl w.heap.size [] w).alloc (Nat.le_refl _) (.cells (stA kd' x rs' sf sp) 38))
  have BS := Lib.hid (hb.alloc (.cells (stA kd' x rs' sf sp) 38))
  clear hb
  go_enter Try.func57, Try.ntmps57
  go_upto_region 1 with fail
  generalize w.alloc (.cells (stA kd' x rs' sf sp) 38) = wa at *
  have q0 := BX.out.cell 1
  have q1 := BS.out.cell 1
  simp at q0 q1
  go_wp2_with fail
  go_ret
  exact ⟨rfl, F1.out⟩
/-- The plan that leads back. -/
def undoL (L : List Nd) : List Stp → List Stp → List Stp
  | [], out => out
  | s :: P, out => undoL L P (if out.any (fun x => decide (x.nd.id = s.nd.id)) then out else out ++ [mvS (getN L s.nd.id).id (getN L s.nd.id).par (getN L s.nd.id).rt])
theorem undoL_snoc (L : List Nd) (s : Stp) : ∀ (P out : List Stp), undoL L (P ++ [s]) out = (if (undoL L P out).any (fun x => decide (x.nd.id = s.nd.id)) then undoL L P out else undoL L P out ++ [mvS (getN L s.nd.id).id (getN L s.nd.id).par (getN L s.nd.id).rt])
  | [], out => rfl
  | t :: P, out => undoL_snoc L s P _
theorem undoL_len (L : List Nd) : ∀ (P out : List Stp), (undoL L P out).length ≤ out.length + P.length
  | [], out => by simp [undoL]
  | s :: P, out => by
    have h := undoL_len L P (if out.any (fun x => decide (x.nd.id = s.nd.id)) then out else out ++ [mvS (getN L s.nd.id).id (getN L s.nd.id).par (getN L s.nd.id).rt])
    unfold undoL
    refine Nat.le_trans h ?_
    split
    · simp
      try omega
    · simp
      try omega
def UndoOut (L : List Nd) (P : List Stp) (r1 : Int) (w : World) (e : Ending) (w' : World) : Prop :=
  Fr w.heap.size [] w w' ∧ ((r1 ≠ 0 ∧ e = .returned (.tuple #[.slice none 0 0, .int .i64 r1])) ∨
  (r1 = 0 ∧ (P.all fun s => decide (s.kind = 4)) = false ∧ e = .returned (.tuple #[.slice none 0 0, .int .i64 11])) ∨
  (r1 = 0 ∧ (P.all fun s => decide (s.kind = 4)) = true ∧ ∃ A c n S, e = .returned (.tuple #[.slice A n c, .int .i64 0]) ∧ Sts w' w'.heap.size A n S ∧ fstS S = undoL L P [] ∧ SmallS S))
/-- A step without slices. -/
def Bare (m : Stm) : Prop := m.2.1 = .slice none 0 0 ∧ m.2.2 = .slice none 0 0 ∧ m.1.nd.fr = [] ∧ m.1.nd.pg = []
theorem Bare.inn {m : Stm} (h : Bare m) (w : World) (B : Nat) : NdIn w B (m.1.nd, m.2.1, m.2.2) := by
  obtain ⟨h1, h2, h3, h4⟩ := h
  rw [h1, h2]
  exact nd_bare w B m.1.nd h3 h4
theorem stepTy : SliceTy Try.prog 23 38 15 152 := SliceTy.mk' (z := .agg #[.int .i64 0, .int .i64 0, .int .i64 0, .slice none 0 0, .slice none 0 0, .int .i64 0, .int .i64 0, .int .i64 0, .int .i64 0, .int .i64 0, .int .i64 0, .int .i64 0, .int .i64 0, .int .i64 0, .bool false]) Try.underlying23 (by kernel_rfl) rfl (by omega)
theorem all_snoc {P : List Stp} {k : Nat} {s : Stp} (h : P.take (k + 1) = P.take k ++ [s]) (ha : ∀ x ∈ P.take k, x.kind = 4) (hs : s.kind = 4) : ∀ x ∈ P.take (k + 1), x.kind = 4 := fun x hx => by
  rw [h] at hx
  rcases List.mem_append.1 hx with hx | hx
  · exact ha x hx
  · rw [List.mem_singleton.1 hx]; exact hs
set_option maxRecDepth 100000 in
set_option maxHeartbeats 8000000 in
theorem undo_any (A A2 : Option Addr) (c c2 B n n2 : Nat) (M : List Ndm) (S : List Stm) (w : World) (h : Nds w B A n M) (hB : B ≤ w.heap.size) (hs : Small M) (hS : Sts w B A2 n2 S) (hss : SmallS S) (hn2 : n2 ≤ 1000) (hk : ∀ x ∈ fstN M, x.fr.length ≤ 1000 ∧ x.pg.length ≤ 1000) :
    Calls Try.prog 29 #[.slice A n c, .slice A2 n2 c2] w (UndoOut (fstN M) (fstS S) (applyN (fstN M) (fstS S)).1 w) := by
  obtain ⟨L, hL⟩ : ∃ L, L = fstN M := ⟨_, rfl⟩
  obtain ⟨P, hP⟩ : ∃ P, P = fstS S := ⟨_, rfl⟩
  obtain ⟨ra, hra⟩ : ∃ r, r = applyN L P := ⟨_, rfl⟩
  have HAP := Lib.hid (by rw [hra, hL, hP]; exact papply_any A A2 c c2 B n n2 M S w h hB hs hS hss (by omega) : Calls Try.prog 11 #[.slice A n c, .slice A2 n2 c2] w (ApOut ra w))
  rw [← hL, ← hP, ← hra]
  obtain ⟨r1, hr1⟩ : ∃ a, a = ra.1 := ⟨_, rfl⟩
  rw [← hr1]
  have HR1 := Lib.hid hr1
  clear hr1
  have HRA := Lib.hid hra
  have HL := Lib.hid hL
  have HP := Lib.hid hP
  have H := Lib.hid h
  have HS := Lib.hid hs
  have HSS := Lib.hid hss
  have HST := Lib.hid hS
  have HNU := Lib.hid hS.num
  clear hL hP hra h hs hS hss hk
  go_enter Try.func29, Try.ntmps29
  go_wp2_with fail
  refine HAP.out.mono ?_
  intro e w1 h1
  obtain ⟨A3, c3, n3, rfl, f1, _, _⟩ := apply_uni HRA.out h1
  have F1 := Lib.hid f1
  clear h1 f1 HAP HRA
  rw [← HR1.out]
  by_cases e1 : r1 = 0
  case' neg =>
    have E1 := Lib.hid e1
    have hcb := kd_ne e1
    have hcn : (r1 != 0) = true := by simpa using e1
    clear e1
    go_wp2_with fail
    go_ret2
    exact ⟨F1.out, .inl ⟨E1.out, rfl⟩⟩
  subst e1
  go_wp2_with fail
  go_loopg [9, 11, 13, 27] n2 (fun g s9 s11 s13 s27 wr => ∃ (k : Nat) (A' : Option Addr) (q c' : Nat) (So : List Stm), k ≤ n2 ∧ g = n2 - k ∧ s27 = .int .i64 k ∧ (s11 = undef ∨ ∃ a, s11 = .pointer a) ∧ (s13 = undef ∨ ∃ a, s13 = .pointer a) ∧ s9 = .slice A' q c' ∧ q ≤ k ∧ RowKit.Hid (q = So.length) ∧ RowKit.Hid (∀ x ∈ P.take k, x.kind = 4) ∧ RowKit.Hid (fstS So = undoL L (P.take k) []) ∧ RowKit.Hid (∀ m ∈ So, Bare m) ∧ RowKit.Hid (wr.ownsRow w.heap.size 38 15 (.slice A' q c') q (cellsS So)) ∧ RowKit.Hid (Fr w.heap.size [] w wr))
  case atStart => exact ⟨0, none, 0, 0, [], Nat.zero_le _, rfl, rfl, .inl rfl, .inl rfl, rfl, Nat.le_refl _, Lib.hid rfl, Lib.hid (by simp), Lib.hid rfl, Lib.hid (by simp), Lib.hid (World.ownsRow_nil _ _ _ _), F1⟩
  case round =>
    clear F1
    obtain ⟨k, A', q, c', So, hk, rfl, rfl, h8, h9, rfl, hqk, HQ, HAL, HUN, HBA, HOW, FR⟩ := hrel
    by_cases hkn : k < n2
    · have hki : (k : Int) < (n2 : Int) := by omega
      have hk0 : (0 : Int) ≤ (k : Int) := by omega
      obtain ⟨m, hx⟩ : ∃ m, S[k]? = some m := ⟨_, List.getElem?_eq_getElem (by rw [← HNU.out]; exact hkn)⟩
      have HSW := HST.out.frw FR.out hB (by simp)
      obtain ⟨bq, oq, hAq, hbq, hc1⟩ := HSW.get hx
      have hin := HSW.inn m (List.mem_of_getElem? hx)
      have HTK := Lib.hid (show P.take (k + 1) = P.take k ++ [m.1] by rw [HP.out, List.take_add_one]; simp [fstS, hx])
      have HPM := Lib.hid (show m.1 ∈ P by rw [HP.out]; exact List.mem_map.2 ⟨m, List.mem_of_getElem? hx, rfl⟩)
      subst hAq
      obtain ⟨⟨kd, y, rs⟩, sf, sp⟩ := m
      simp only at hin HTK HPM
      obtain ⟨⟨Af, cf, hf1, _⟩, ⟨Ap, cp, hp1, _⟩⟩ := hin
      simp only at hf1 hp1
      subst hf1
      subst hp1
      obtain ⟨nf, hnf⟩ : ∃ z, z = y.fr.length := ⟨_, rfl⟩
      obtain ⟨np, hnp⟩ : ∃ z, z = y.pg.length := ⟨_, rfl⟩
      rw [← hnf, ← hnp] at hc1
      have p0 := hc1 0 (.int .i64 kd) rfl
      have p1 := hc1 1 (.int .i64 y.id) rfl
      have p2 := hc1 2 (.int .i64 y.kind) rfl
      have p3 := hc1 3 (.slice Af nf cf) rfl
      have p4 := hc1 4 (.slice Ap np cp) rfl
      have p5 := hc1 5 (.int .i64 y.par) rfl
      have p6 := hc1 6 (.int .i64 (y.rt 0)) rfl
      have p7 := hc1 7 (.int .i64 (y.rt 1)) rfl
      have p8 := hc1 8 (.int .i64 (y.rt 2)) rfl
      have p9 := hc1 9 (.int .i64 (y.rt 3)) rfl
      have p10 := hc1 10 (.int .i64 (y.rt 4)) rfl
      have p11 := hc1 11 (.int .i64 (y.rt 5)) rfl
      have p12 := hc1 12 (.int .i64 (y.rt 6)) rfl
      have p13 := hc1 13 (.int .i64 (y.rt 7)) rfl
      have p14 := hc1 14 (.bool rs) rfl
      simp only [Nat.add_zero] at p0
      have BX := Lib.hid (Blk.new wr 38 (stA kd y rs (.slice Af nf cf) (.slice Ap np cp)))
      have fa := (Fr.refl wr.heap.size [] wr).alloc (Nat.le_refl _) (.cells (stA kd y rs (.slice Af nf cf) (.slice Ap np cp)) 38)
      have FA := Lib.hid (FR.out.trans (fa.mono (B' := w.heap.size) (L' := []) FR.out.size (by simp)))
      have HOA := Lib.hid (ownsRow_fr HOW.out fa (fun q hq => ⟨(HOW.out.lt q hq).2, by simp⟩))
      clear fa hc1 hx HSW hnf hnp hbq
      go_upto_region 8 with fail
      clear p0 p1 p2 p3 p4 p5 p6 p7 p8 p9 p10 p11 p12 p13 p14
      generalize wr.alloc (.cells (stA kd y rs (.slice Af nf cf) (.slice Ap np cp)) 38) = wa at *
      generalize hgx : wr.heap.size = gx at BX
      have hgl : gx < wa.heap.size := BX.out.lt
      have hgw : w.heap.size ≤ gx := by have := FR.out.size; omega
      have q0 := BX.out.cell 0
      have q1 := BX.out.cell 1
      simp at q0 q1
      clear FR HOW hgx
      by_cases ek : kd = 4
      case' neg =>
        have EA := Lib.hid (show (P.all fun s => decide (s.kind = 4)) = false by
          rw [List.all_eq_false]
          exact ⟨_, HPM.out, by simpa using ek⟩)
        have hcb := kd_ne ek
        have hcn : (kd != 4) = true := by simpa using ek
        clear ek
        go_wp2_with fail
        go_ret2
        exact ⟨FA.out, .inr (.inl ⟨rfl, EA.out, rfl⟩)⟩
      subst ek
      have HFD := Lib.hid (find_any y.id A c B n M wa (H.out.frw FA.out hB (by simp)) (Nat.le_trans hB FA.out.size) HS.out)
      go_wp2_with fail
      refine HFD.out.mono ?_
      intro e w9 h9'
      obtain ⟨x0, sf0, sp0, hx0, rfl, hin0, f9⟩ := FindOut.get h9'
      obtain ⟨⟨Bf, df, kf1, _⟩, ⟨Bp, dp, kp1, _⟩⟩ := hin0
      simp only at kf1 kp1
      subst kf1
      subst kp1
      obtain ⟨mf, hmf⟩ : ∃ z, z = x0.fr.length := ⟨_, rfl⟩
      obtain ⟨mp, hmp⟩ : ∃ z, z = x0.pg.length := ⟨_, rfl⟩
      obtain ⟨bt, hbt⟩ : ∃ b, b = (findN (M.map (fun z => z.1)) y.id).isSome := ⟨_, rfl⟩
      rw [← hmf, ← hmp, ← hbt]
      have HX0 := Lib.hid (show x0 = getN L y.id by rw [hx0, HL.out]; rfl)
      have fo := (Fr.refl w9.heap.size [] w9).alloc (Nat.le_refl _) (.cells (ndA x0 (.slice Bf mf df) (.slice Bp mp dp)) 36)
      have f10 := f9.trans (fo.mono (B' := wa.heap.size) (L' := []) f9.size (by simp))
      have F10 := Lib.hid (FA.out.trans (f10.mono (B' := w.heap.size) (L' := []) FA.out.size (by simp)))
      have BX10 := Lib.hid (BX.out.fr f10 BX.out.lt (by simp))
      have BO := Lib.hid (Blk.new w9 36 (ndA x0 (.slice Bf mf df) (.slice Bp mp dp)))
      have HO10 := Lib.hid (ownsRow_fr HOA.out f10 (fun q hq => ⟨(HOA.out.lt q hq).2, by simp⟩))
      have hg9 : wa.heap.size ≤ w9.heap.size := f9.size
      clear h9' hx0 f9 hmf hmp hbt fo f10 HFD BX HOA FA q0 q1
      go_upto_region 12 with fail
      obtain ⟨gO, hgO⟩ : ∃ g, g = w9.heap.size := ⟨_, rfl⟩
      rw [← hgO] at BO hg9
      try rw [← hgO]
      generalize w9.alloc (.cells (ndA x0 (.slice Bf mf df) (.slice Bp mp dp)) 36) = w10 at *
      clear hgO
      have STO := Lib.hid (show Sts w10 w10.heap.size A' q So from ⟨HQ.out, Reads.of_own HO10.out, fun m hm => (HBA.out m hm).inn _ _⟩)
      obtain ⟨bb, hbb⟩ : ∃ b, b = (fstS So).any (fun s => decide (s.nd.id = y.id)) := ⟨_, rfl⟩
      have hent := enters_of Try.func57 (by kernel_rfl) rfl
      have HCT := Lib.hid (by rw [hbb]; exact scontains_any 57 #[.pointer (some ⟨gx, 0, none⟩)] (fun s => decide (s.nd.id = y.id)) A' c' w10.heap.size q So w10 hent (fun m w' _ hf => undof_any m y (.slice Af nf cf) (.slice Ap np cp) gx 4 rs w' (BX10.out.fr hf BX10.out.lt (by simp))) (by omega) STO.out (Nat.le_refl _) : Calls Try.prog 38 #[.slice A' q c', .func (.func 57) #[] #[.pointer (some ⟨gx, 0, none⟩)]] w10 fun e w' => e = .returned (.bool bb) ∧ Fr w10.heap.size [] w10 w')
      have HBB := Lib.hid hbb
      clear hbb hent STO
      go_wp2_with fail
      refine HCT.out.mono ?_
      rintro e w11 ⟨rfl, f11⟩
      have F11 := Lib.hid (F10.out.trans (f11.mono (B' := w.heap.size) (L' := []) F10.out.size (by simp)))
      have BO11 := Lib.hid (BO.out.fr f11 BO.out.lt (by simp))
      have HO11 := Lib.hid (ownsRow_fr HO10.out f11 (fun q hq => ⟨(HO10.out.lt q hq).2, by simp⟩))
      have HUS := Lib.hid (show undoL L (P.take (k + 1)) [] = if bb then fstS So else fstS So ++ [mvS x0.id x0.par x0.rt] by
        rw [HTK.out, undoL_snoc, ← HUN.out, HBB.out, HX0.out])
      have HAL2 := Lib.hid (all_snoc HTK.out HAL.out rfl)
      clear f11 HCT F10 BX10 BO HO10
      cases bb with
      | true =>
        go_wp2_with fail
        go_roundg (n2 - (k + 1))
        case measure => omega
        case rel => exact ⟨k + 1, A', q, c', So, by omega, rfl, by go_num, .inr ⟨_, rfl⟩, .inr ⟨_, rfl⟩, rfl, by omega, HQ, HAL2, Lib.hid (by rw [HUS.out]; rfl), HBA, HO11, F11⟩
      | false =>
        have HMV := Lib.hid (moved_any x0.id x0.par x0.rt w11)
        have o0 := BO11.out.cell 0
        have o1 := BO11.out.cell 1
        have o2 := BO11.out.cell 2
        have o3 := BO11.out.cell 3
        have o4 := BO11.out.cell 4
        have o5 := BO11.out.cell 5
        have o6 := BO11.out.cell 6
        have o7 := BO11.out.cell 7
        have o8 := BO11.out.cell 8
        have o9 := BO11.out.cell 9
        have o10 := BO11.out.cell 10
        have o11 := BO11.out.cell 11
        have o12 := BO11.out.cell 12
        simp at o0 o1 o2 o3 o4 o5 o6 o7 o8 o9 o10 o11 o12
        go_upto_region 13 with fail
        go_wp2_with fail
        refine HMV.out.mono ?_
        rintro e w12 ⟨rfl, f12⟩
        have F12 := Lib.hid (F11.out.trans (f12.mono (B' := w.heap.size) (L' := []) F11.out.size (by simp)))
        have hown12 := ownsRow_fr HO11.out f12 (fun q hq => ⟨(HO11.out.lt q hq).2, by simp⟩)
        have hsz := F12.out.size
        clear f12 HMV F11 HO11 BO11 o0 o1 o2 o3 o4 o5 o6 o7 o8 o9 o10 o11 o12
        go_wp2_with (at_builtin; refine wpList_app_lit w12 rfl (.tmp 47) (.tmp 55) stepTy rfl w.heap.size (.slice A' q c') q _ rfl hown12 1 1 (stV (mvS x0.id x0.par x0.rt) (.slice none 0 0) (.slice none 0 0)) rfl rfl (by simp [mvS, Value.oneCell']) (by omega) (by omega) hsz ?_; intro A13 c13 w13 hown13 hg13 hat13)
        have F13 := Lib.hid (F12.out.trans (Fr.of_app hg13 hown12 hsz))
        have HO13 := Lib.hid (show w13.ownsRow w.heap.size 38 15 (.slice A13 (q + 1) c13) (q + 1) (cellsS (So ++ [(mvS x0.id x0.par x0.rt, .slice none 0 0, .slice none 0 0)])) by rw [cellsS_app]; simpa [cellsS, stL] using hown13)
        clear hown13 hg13 hat13 hown12
        go_roundg (n2 - (k + 1))
        case measure => omega
        case rel => exact ⟨k + 1, A13, q + 1, c13, _, by omega, rfl, by go_num, .inr ⟨_, rfl⟩, .inr ⟨_, rfl⟩, rfl, by omega, Lib.hid (by rw [List.length_append, ← HQ.out]; rfl), HAL2, Lib.hid (by rw [HUS.out]; simp [fstS]), Lib.hid (fun m hm => by
          rcases List.mem_append.1 hm with hm | hm
          · exact HBA.out m hm
          · rw [List.mem_singleton.1 hm]; exact ⟨rfl, rfl, rfl, rfl⟩), HO13, F13⟩
    · obtain rfl : k = n2 := by omega
      have htk : P.take k = P := List.take_of_length_le (by rw [HP.out, HNU.out]; simp [fstS])
      have HA4 := Lib.hid (show (P.all fun s => decide (s.kind = 4)) = true by
        rw [List.all_eq_true]
        intro s hs
        rw [← htk] at hs
        simpa using HAL.out s hs)
      have HUD := Lib.hid (show fstS So = undoL L P [] by rw [HUN.out, htk])
      have STO := Lib.hid (show Sts wr wr.heap.size A' q So from ⟨HQ.out, Reads.of_own HOW.out, fun m hm => (HBA.out m hm).inn _ _⟩)
      have SMO := Lib.hid (show SmallS So from fun m hm => by
        obtain ⟨_, _, h3, h4⟩ := HBA.out m hm
        rw [h3, h4]; simp)
      clear htk
      go_wp2_with fail
      go_ret2
      exact ⟨FR.out, .inr (.inr ⟨rfl, HA4.out, A', c', q, So, rfl, STO.out, HUD.out, SMO.out⟩)⟩
end Go.Proofs.Ytklhhcflpffojaa
namespace Go.Proofs.Ytklhhcflpffojaa
open Go.RowKit Go.Fb
/-- A graph with other tasks and routes. -/
def setV (N : List Nd) (V : Int → Int × (Nat → Int)) : List Nd := N.map fun n => rtN (V n.id).1 (V n.id).2 n
def putV (V : Int → Int × (Nat → Int)) (x : Nd) : Int → Int × (Nat → Int) := fun i => if i = x.id then (x.par, x.rt) else V i
def ownV (L : List Nd) : Int → Int × (Nat → Int) := fun i => ((getN L i).par, (getN L i).rt)
theorem setV_ids (N : List Nd) (V : Int → Int × (Nat → Int)) : idsN (setV N V) = idsN N := by
  unfold idsN setV
  rw [List.map_map]
  rfl
theorem setV_sorted {N : List Nd} (V : Int → Int × (Nat → Int)) (h : normL N = N) : normL (setV N V) = setV N V := by
  refine normL_self ?_
  have hs : SortedN N := by rw [← h]; exact normL_sorted N
  unfold SortedN at hs ⊢
  unfold setV
  rw [List.pairwise_map]
  exact hs
theorem find_setV (N : List Nd) (V : Int → Int × (Nat → Int)) (id : Int) : findN (setV N V) id = (findN N id).map fun n => rtN (V n.id).1 (V n.id).2 n := by
  unfold findN setV
  induction N with
  | nil => rfl
  | cons n N ih =>
    rw [List.map_cons, List.find?_cons, List.find?_cons]
    have e : decide ((rtN (V n.id).1 (V n.id).2 n).id = id) = decide (n.id = id) := rfl
    rw [e]
    cases decide (n.id = id)
    · exact ih
    · rfl
theorem setV_own {L N : List Nd} (hp : N.Perm L) (hu : (idsN L).Nodup) {V : Int → Int × (Nat → Int)} (h : ∀ n ∈ N, V n.id = ownV L n.id) : setV N V = N := by
  unfold setV
  conv => rhs; rw [← List.map_id N]
  apply List.map_congr_left
  intro n hn
  have : getN L n.id = n := getN_some (findN_one hu (hp.mem_iff.1 hn))
  rw [h n hn]
  unfold ownV
  simp only [this, id]
  rfl
theorem upd_setV {N : List Nd} {V : Int → Int × (Nat → Int)} {x : Nd} : updN (setV N V) x.id (rtN x.par x.rt) = setV N (putV V x) := by
  unfold updN setV
  rw [List.map_map]
  apply List.map_congr_left
  intro n _
  unfold putV
  simp only [Function.comp]
  by_cases h : n.id = x.id
  · simp [rtN, h]
  · simp [rtN, h]
theorem node_setV {N : List Nd} {V : Int → Int × (Nat → Int)} {n : Nd} : nodeB (setV N V) (rtN (V n.id).1 (V n.id).2 n) = (decide (0 ≤ n.id) && (decide (n.id < 8) && (kindB n && (right8 (V n.id).1 (V n.id).2 && !n.fr.any (aboveB N))))) := by
  have ha : ∀ f, aboveB (setV N V) f = aboveB N f := fun f => by
    unfold aboveB
    rw [find_setV]
    cases findN N f <;> rfl
  unfold nodeB
  rw [show aboveB (setV N V) = aboveB N from funext ha]
  rfl
theorem right_setV {N : List Nd} {V : Int → Int × (Nat → Int)} (h : RightG N) : RightG (setV N V) ↔ ∀ n ∈ N, right8 (V n.id).1 (V n.id).2 = true := by
  constructor
  · intro g n hn
    have := g.each (rtN (V n.id).1 (V n.id).2 n) (List.mem_map.2 ⟨n, hn, rfl⟩)
    rw [node_setV] at this
    simp only [Bool.and_eq_true] at this
    exact this.2.2.2.1
  · intro g
    refine ⟨by unfold setV; rw [List.length_map]; exact h.len, fun m hm => ?_, by rw [setV_ids]; exact h.uni, by rw [setV_ids]; exact h.zero, ?_⟩
    · obtain ⟨n, hn, rfl⟩ := List.mem_map.1 hm
      rw [node_setV, g n hn]
      have := h.each n hn
      unfold nodeB at this
      simp only [Bool.and_eq_true] at this ⊢
      exact ⟨this.1, this.2.1, this.2.2.1, trivial, this.2.2.2.2⟩
    · obtain ⟨r, hr⟩ := h.rank
      refine ⟨r, fun m hm f hf => ?_⟩
      obtain ⟨n, hn, rfl⟩ := List.mem_map.1 hm
      exact hr n hn f hf
/-- One move. -/
theorem step_setV {N : List Nd} {V : Int → Int × (Nat → Int)} {x : Nd} {r : Bool} (hn : normL N = N) (hr : RightG (setV N V)) : stepN (setV N V) ⟨4, x, r⟩ = match findN N x.id with
    | none => (12, [])
    | some n => if n.kind = 0 then (11, []) else endN (0, setV N (putV V x)) := by
  rw [step_ok hr (by simp), setV_sorted V hn]
  unfold chgN
  simp only
  rw [find_setV]
  cases hf : findN N x.id with
  | none => simp [endN]
  | some n =>
    by_cases hk : n.kind = 0
    · simp [rtN, hk, endN]
    · simp [rtN, hk]
      rw [upd_setV]
def updV (V : Int → Int × (Nat → Int)) (P : List Stp) : Int → Int × (Nat → Int) := P.foldl (fun V s => putV V s.nd) V
theorem updV_none : ∀ (P : List Stp) (V : Int → Int × (Nat → Int)) (i : Int), (∀ s ∈ P, s.nd.id ≠ i) → updV V P i = V i
  | [], _, _, _ => rfl
  | s :: P, V, i, h => by
    show updV (putV V s.nd) P i = V i
    rw [updV_none P _ i fun t ht => h t (by simp [ht])]
    unfold putV
    rw [if_neg (fun e => h s (by simp) e.symm)]
/-- Moves, one behind the other. -/
theorem go_setV {N : List Nd} (hN : RightG N) (hn : normL N = N) : ∀ (P : List Stp) (i : Nat) (V : Int → Int × (Nat → Int)), RightG (setV N V) → (∀ s ∈ P, s.kind = 4) → (goN i (setV N V) P).1 = 0 → (goN i (setV N V) P).2.2 = setV N (updV V P) ∧ RightG (setV N (updV V P)) ∧ ∀ s ∈ P, ∃ n, findN N s.nd.id = some n ∧ n.kind ≠ 0
  | [], _, V, hr, _, _ => ⟨rfl, hr, by simp⟩
  | ⟨kd, x, rs⟩ :: P, i, V, hr, hk, h0 => by
    have hkd := hk _ List.mem_cons_self
    simp only at hkd
    subst hkd
    have hs := step_setV (x := x) (r := rs) hn hr
    unfold goN at h0 ⊢
    by_cases e : (stepN (setV N V) ⟨4, x, rs⟩).1 ≠ 0
    · rw [if_pos e] at h0; exact absurd h0 e
    rw [if_neg e] at h0 ⊢
    have e := Decidable.not_not.1 e
    cases hf : findN N x.id with
    | none => rw [hf] at hs; rw [hs] at e; cases e
    | some n =>
      rw [hf] at hs
      simp only at hs
      by_cases hk0 : n.kind = 0
      · rw [if_pos hk0] at hs; rw [hs] at e; cases e
      rw [if_neg hk0] at hs
      rw [hs] at e
      obtain ⟨_, g2, g3⟩ := end_ok e
      simp only at g2 g3
      rw [setV_sorted _ hn] at g3
      rw [hs, g3] at h0 ⊢
      obtain ⟨a1, a2, a3⟩ := go_setV hN hn P (i + 1) (putV V x) g2 (fun s hs => hk s (by simp [hs])) h0
      refine ⟨a1, a2, fun s hs => ?_⟩
      rcases List.mem_cons.1 hs with rfl | hs
      · exact ⟨n, hf, hk0⟩
      · exact a3 s hs
/-- Moves that keep within what may be. -/
theorem go_back {N : List Nd} (hN : RightG N) (hn : normL N = N) : ∀ (U : List Stp) (i : Nat) (V W : Int → Int × (Nat → Int)), (∀ n ∈ N, right8 (V n.id).1 (V n.id).2 = true) → (∀ n ∈ N, right8 (W n.id).1 (W n.id).2 = true) →
    (∀ u ∈ U, u.kind = 4 ∧ (u.nd.par, u.nd.rt) = W u.nd.id ∧ ∃ n, findN N u.nd.id = some n ∧ n.kind ≠ 0) → (goN i (setV N V) U).1 = 0 ∧ (goN i (setV N V) U).2.2 = setV N (updV V U)
  | [], _, _, _, _, _, _ => ⟨rfl, rfl⟩
  | ⟨kd, x, rs⟩ :: U, i, V, W, hV, hW, hU => by
    obtain ⟨hkd, hw, n, hf, hk⟩ := hU _ List.mem_cons_self
    simp only at hkd hw hf
    subst hkd
    have hP : ∀ m ∈ N, right8 (putV V x m.id).1 (putV V x m.id).2 = true := fun m hm => by
      unfold putV
      by_cases e : m.id = x.id
      · have h := hW m hm
        rw [e, ← hw] at h
        rw [if_pos e]
        exact h
      · rw [if_neg e]; exact hV m hm
    have hs : stepN (setV N V) ⟨4, x, rs⟩ = (0, setV N (putV V x)) := by
      rw [step_setV hn ((right_setV hN).2 hV), hf]
      simp only
      rw [if_neg hk, end_mk ((right_setV hN).2 hP), setV_sorted _ hn]
    unfold goN
    rw [hs]
    simp only [ne_eq, not_true_eq_false, if_false]
    exact go_back hN hn U (i + 1) (putV V x) W hP hW fun u hu => hU u (by simp [hu])
theorem updV_own : ∀ (U : List Stp) (V W : Int → Int × (Nat → Int)) (i : Int), (∀ u ∈ U, (u.nd.par, u.nd.rt) = W u.nd.id) → ((∃ u ∈ U, u.nd.id = i) ∨ V i = W i) → updV V U i = W i
  | [], V, W, i, _, h => by
    rcases h with ⟨u, hu, _⟩ | h
    · cases hu
    · exact h
  | s :: U, V, W, i, hU, h => by
    show updV (putV V s.nd) U i = W i
    refine updV_own U _ W i (fun u hu => hU u (by simp [hu])) ?_
    by_cases e : s.nd.id = i
    · refine .inr ?_
      unfold putV
      rw [if_pos e.symm, hU s (by simp), e]
    · rcases h with ⟨u, hu, hi⟩ | h
      · rcases List.mem_cons.1 hu with rfl | hu
        · exact absurd hi e
        · exact .inl ⟨u, hu, hi⟩
      · refine .inr ?_
        unfold putV
        rw [if_neg (fun e' => e e'.symm)]
        exact h
theorem undo_mem (L : List Nd) : ∀ (P out : List Stp), (∀ u ∈ undoL L P out, u ∈ out ∨ ∃ s ∈ P, u = mvS (getN L s.nd.id).id (getN L s.nd.id).par (getN L s.nd.id).rt) ∧ (∀ u ∈ out, u ∈ undoL L P out)
  | [], out => ⟨fun u hu => .inl hu, fun u hu => hu⟩
  | s :: P, out => by
    unfold undoL
    obtain ⟨h1, h2⟩ := undo_mem L P (if out.any (fun x => decide (x.nd.id = s.nd.id)) then out else out ++ [mvS (getN L s.nd.id).id (getN L s.nd.id).par (getN L s.nd.id).rt])
    refine ⟨fun u hu => ?_, fun u hu => h2 u ?_⟩
    · rcases h1 u hu with h | ⟨t, ht, e⟩
      · by_cases hb : out.any (fun x => decide (x.nd.id = s.nd.id)) = true
        · rw [if_pos hb] at h; exact .inl h
        · rw [if_neg hb] at h
          rcases List.mem_append.1 h with h | h
          · exact .inl h
          · exact .inr ⟨s, by simp, List.mem_singleton.1 h⟩
      · exact .inr ⟨t, by simp [ht], e⟩
    · by_cases hb : out.any (fun x => decide (x.nd.id = s.nd.id)) = true
      · rw [if_pos hb]; exact hu
      · rw [if_neg hb]; exact List.mem_append_left _ hu
theorem undo_has (L : List Nd) : ∀ (P out : List Stp), (∀ s ∈ P, (getN L s.nd.id).id = s.nd.id) → ∀ s ∈ P, ∃ u ∈ undoL L P out, u.nd.id = s.nd.id
  | [], _, _, s, hs => by cases hs
  | t :: P, out, hg, s, hs => by
    unfold undoL
    rcases List.mem_cons.1 hs with rfl | hs
    · by_cases hb : out.any (fun x => decide (x.nd.id = s.nd.id)) = true
      · rw [if_pos hb]
        obtain ⟨u, hu, e⟩ := List.any_eq_true.1 hb
        exact ⟨u, (undo_mem L P out).2 u hu, of_decide_eq_true e⟩
      · rw [if_neg hb]
        exact ⟨_, (undo_mem L P _).2 _ (List.mem_append_right _ List.mem_cons_self), hg s List.mem_cons_self⟩
    · exact undo_has L P _ (fun x hx => hg x (by simp [hx])) s hs
theorem go_norm {L : List Nd} {P : List Stp} (h : P ≠ []) (i : Nat) : goN i L P = goN i (normL L) P := by
  cases P with
  | nil => exact absurd rfl h
  | cons s P =>
    have : stepN (normL L) s = stepN L s := by
      unfold stepN
      rw [check_perm (normL_perm L), normL_norm]
    unfold goN
    rw [this]
/-- What is undone is as it was. -/
theorem undo_back {L : List Nd} {P : List Stp} (h0 : (applyN L P).1 = 0) (hk : ∀ s ∈ P, s.kind = 4) :
    (applyN (applyN L P).2.2 (undoL L P [])).1 = 0 ∧ sameL (applyN (applyN L P).2.2 (undoL L P [])).2.2 L = true ∧ (undoL L P []).length ≤ P.length := by
  have hlen := undoL_len L P []
  simp only [List.length_nil, Nat.zero_add] at hlen
  unfold applyN at h0
  by_cases hc : checkN L ≠ 0
  · rw [if_pos hc] at h0; simp at h0
  rw [if_neg hc] at h0
  by_cases hp : P.length < 1 ∨ 6 < P.length
  · rw [if_pos hp] at h0; simp at h0
  rw [if_neg hp] at h0
  have hr : RightG L := checkN_zero.1 (Decidable.not_not.1 hc)
  have hPn : P ≠ [] := by rintro rfl; simp at hp
  have hN := norm_right hr
  have hnn := normL_norm L
  have hown : setV (normL L) (ownV L) = normL L := setV_own (normL_perm L) hr.uni fun n _ => rfl
  have happ : applyN L P = goN 0 (setV (normL L) (ownV L)) P := by
    unfold applyN
    rw [if_neg hc, if_neg hp, hown]
    exact go_norm hPn 0
  rw [go_norm hPn 0, ← hown] at h0
  obtain ⟨a1, a2, a3⟩ := go_setV hN hnn P 0 (ownV L) (by rw [hown]; exact hN) hk h0
  have hfin : ∀ s ∈ P, ∃ n, findN L s.nd.id = some n ∧ n.kind ≠ 0 ∧ getN L s.nd.id = n := fun s hs => by
    obtain ⟨n, h1, h2⟩ := a3 s hs
    rw [findN_norm] at h1
    exact ⟨n, h1, h2, getN_some h1⟩
  have hgid : ∀ s ∈ P, (getN L s.nd.id).id = s.nd.id := fun s hs => by
    obtain ⟨n, h1, _, h3⟩ := hfin s hs
    rw [h3]; exact findN_id h1
  have hU : ∀ u ∈ undoL L P [], u.kind = 4 ∧ (u.nd.par, u.nd.rt) = ownV L u.nd.id ∧ ∃ n, findN (normL L) u.nd.id = some n ∧ n.kind ≠ 0 := fun u hu => by
    rcases (undo_mem L P []).1 u hu with h | ⟨s, hs, rfl⟩
    · cases h
    · obtain ⟨n, h1, h2, h3⟩ := hfin s hs
      have hi := hgid s hs
      refine ⟨rfl, ?_, n, ?_, h2⟩
      · simp only [mvS]
        unfold ownV
        rw [hi]
      · simp only [mvS]
        rw [hi, findN_norm]
        exact h1
  have hV1 := (right_setV hN).1 a2
  have hV0 : ∀ n ∈ normL L, right8 (ownV L n.id).1 (ownV L n.id).2 = true := (right_setV hN).1 (by rw [hown]; exact hN)
  obtain ⟨b1, b2⟩ := go_back hN hnn (undoL L P []) 0 (updV (ownV L) P) (ownV L) hV1 hV0 hU
  have hUl : ¬ ((undoL L P []).length < 1 ∨ 6 < (undoL L P []).length) := by
    have : 0 < (undoL L P []).length := by
      cases hP : P with
      | nil => exact absurd hP hPn
      | cons s t =>
        obtain ⟨u, hu, _⟩ := undo_has L P [] hgid s (by rw [hP]; simp)
        rw [hP] at hu
        exact List.length_pos_of_mem hu
    omega
  have happ2 : applyN (applyN L P).2.2 (undoL L P []) = goN 0 (setV (normL L) (updV (ownV L) P)) (undoL L P []) := by
    rw [happ, a1]
    unfold applyN
    rw [if_neg (by rw [checkN_zero.2 a2]; simp), if_neg hUl]
  rw [happ2]
  refine ⟨b1, ?_, hlen⟩
  rw [b2]
  have hend : setV (normL L) (updV (updV (ownV L) P) (undoL L P [])) = normL L := setV_own (normL_perm L) hr.uni fun n hn => by
    refine updV_own _ _ _ _ (fun u hu => (hU u hu).2.1) ?_
    by_cases hin : ∃ s ∈ P, s.nd.id = n.id
    · obtain ⟨s, hs, e⟩ := hin
      obtain ⟨u, hu, e2⟩ := undo_has L P [] hgid s hs
      exact .inl ⟨u, hu, e2.trans e⟩
    · exact .inr (updV_none P _ _ fun s hs e => hin ⟨s, hs, e⟩)
  rw [hend]
  exact same_norm
end Go.Proofs.Ytklhhcflpffojaa
