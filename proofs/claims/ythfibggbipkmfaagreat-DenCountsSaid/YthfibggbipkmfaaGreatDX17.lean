/- Texts merged into one, for the number of files a claim may have: CtR. -/
import Derived.Test.YthfibggbipkmfaaGreatDX13
import Derived.Test.YthfibggbipkmfaaGreatDX15
import Derived.Test.YthfibggbipkmfaaGreatDX16
import Derived.Deep.RegionLaw
namespace Go.Proofs.YthfibggbipkmfaaGreat
open Go.RowKit Go.Fb
set_option linter.unusedVariables false
theorem recsTy : SliceTy Tryz.prog 23 56 3 24 := SliceTy.mk' (z := .agg #[.int .i64 0, .int .i64 0, .int .i64 0]) Tryz.underlying23 (by kernel_rfl) rfl (by omega)
set_option maxRecDepth 100000 in
set_option maxHeartbeats 2000000 in
theorem ctget_any (gt gm : Nat) (T : Pk → CV) (p : Pk) (w : World) (h : CT w gt gm T) :
    Calls Tryz.prog 144 #[.pointer (some ⟨gt, 0, none⟩), .int .i64 p.1, .int .i64 p.2] w fun e w' => e = .returned (cvV (T p)) ∧ Fr w.heap.size [] w w' := by
  have fa := (Fr.refl w.heap.size [] w).alloc (Nat.le_refl _) (.cells #[.int .i64 0, .int .i64 0, .int .i64 0, .int .i64 0] 76)
  have BC := Lib.hid (Blk.new w 76 #[.int .i64 0, .int .i64 0, .int .i64 0, .int .i64 0])
  have HCT := Lib.hid (h.keep fa)
  have FA := Lib.hid fa
  have hlt := h.bk.lt
  obtain ⟨v, hv⟩ : ∃ v, v = T p := ⟨_, rfl⟩
  have HV := Lib.hid hv
  rw [← hv]
  clear h fa hv
  go_enter Tryz.func144, Tryz.ntmps144
  go_upto_region 3 with fail
  generalize w.alloc (.cells #[.int .i64 0, .int .i64 0, .int .i64 0, .int .i64 0] 76) = w1 at *
  obtain ⟨g, hg⟩ : ∃ g, g = w.heap.size := ⟨_, rfl⟩
  rw [← hg] at BC ⊢
  have HG := Lib.hid hg
  clear hg
  have q0 : w1.cell? ⟨gt, 0, none⟩ = some (.map (some gm)) := HCT.out.bk.cell 0
  have hlk := HCT.out.mp.look p
  rw [← HV.out] at hlk
  have r0 := BC.out.cell 0
  have r1 := BC.out.cell 1
  have r2 := BC.out.cell 2
  have r3 := BC.out.cell 3
  have z0 := BC.out.frozen 0
  have z1 := BC.out.frozen 1
  have z2 := BC.out.frozen 2
  have z3 := BC.out.frozen 3
  simp at r0 r1 r2 r3
  clear HV
  go_wp2_with fail
  have bs := (((BC.out.set_ 0 (.int .i64 v.1)).set_ 1 (.int .i64 v.2.1)).set_ 2 (.int .i64 v.2.2.1)).set_ 3 (.int .i64 v.2.2.2)
  simp only [List.setIfInBounds_toArray, List.set_cons_zero, List.set_cons_succ] at bs
  have fs := ((((FA.out.setCell (p := ⟨g, 0, none⟩) (.inl (by rw [HG.out]; exact Nat.le_refl _)) (.int .i64 v.1)).setCell (p := ⟨g, 1, none⟩) (.inl (by rw [HG.out]; exact Nat.le_refl _)) (.int .i64 v.2.1)).setCell (p := ⟨g, 2, none⟩) (.inl (by rw [HG.out]; exact Nat.le_refl _)) (.int .i64 v.2.2.1)).setCell (p := ⟨g, 3, none⟩) (.inl (by rw [HG.out]; exact Nat.le_refl _)) (.int .i64 v.2.2.2))
  exact bodyPost_ret (results_cell_row rfl _ _ g 76 #[.int .i64 v.1, .int .i64 v.2.1, .int .i64 v.2.2.1, .int .i64 v.2.2.2] (0, 0) _ rfl bs Tryz.underlying76 rfl (by kernel_rfl)) rfl ⟨rfl, fs⟩
/-- What is kept as two values, and back. -/
def ccT (v : CV) : (Int × Int) × (Int × Int) := ((v.1, v.2.1), (v.2.2.1, v.2.2.2))
def cvT (c : (Int × Int) × (Int × Int)) : CV := (c.1.1, c.1.2, c.2.1, c.2.2)
theorem cvB_ok {v : CV} (h : cvB v = true) : vOk (ccT v).1 ∧ vOk (ccT v).2 := by
  unfold cvB at h
  rw [Bool.and_eq_true] at h
  exact h
theorem cvT_ok {c : (Int × Int) × (Int × Int)} (h : vOk c.1 ∧ vOk c.2) : cvB (cvT c) = true := by
  unfold cvB
  rw [Bool.and_eq_true]
  exact h
/-- A record of a key and a value. -/
def rcF (k : Int) (v : Int × Int) : Nat → Int := fun j => if j = 0 then k else if j = 1 then v.1 else v.2
def rcL (k : Int) (l : List (Int × Int)) : List (Nat → Int) := l.map (rcF k)
theorem rcF_C (k : Int) (v : Int × Int) : recC (rcF k v) = [.int .i64 k, .int .i64 v.1, .int .i64 v.2] := rfl
/-- What a table's Run leaves. -/
def TRunOut (gt gm : Nat) (T : Pk → CV) (p : Pk) (l : List (Int × Int)) (x : Int × Int) (w : World) (e : Ending) (w' : World) : Prop :=
  ∃ A n c, n = (outP_ l x (ccT (T p))).length ∧ e = .returned (.tuple #[.slice A n c, .int .i64 0]) ∧ w'.ownsRow w.heap.size 56 3 (.slice A n c) n (cellsR (rcL p.2 (outP_ l x (ccT (T p))))) ∧ CT w' gt gm (updT T p (cvT (celP l x (ccT (T p))))) ∧ Fr w.heap.size [gm] w w'
set_option maxRecDepth 100000 in
set_option maxHeartbeats 8000000 in
theorem ctrun_any (gt gm : Nat) (T : Pk → CV) (p : Pk) (Ap : Option Addr) (cp B : Nat) (l : List (Int × Int)) (s : CS) (x : Int × Int) (w : World) (h : CT w gt gm T) (hsf : chkL l = some s) (hrd : Reads w B 2 Ap l.length (cellsI l)) (hB : B ≤ w.heap.size) (hx : vOk x) (hp : thereB p = true) (hT : cvB (T p) = true) (hn : (outP_ l x (ccT (T p))).length ≤ 1000) :
    Calls Tryz.prog 115 #[.pointer (some ⟨gt, 0, none⟩), .int .i64 p.1, .slice Ap l.length cp, .agg #[.int .i64 p.2, .int .i64 x.1, .int .i64 x.2]] w (TRunOut gt gm T p l x w) := by
  obtain ⟨k1, k2⟩ := prog_ok (safe_of hsf) hx (cvB_ok hT)
  have HTH := Lib.hid (fun w => (there_any p.1 p.2 w : Calls Tryz.prog 53 _ w _))
  have HCR := Lib.hid (cellright_any p.2 x.1 x.2)
  have hrb : recB p.2 x.1 x.2 = true := by
    unfold thereB at hp
    have hp := of_decide_eq_true hp
    unfold recB
    have hx : valB x.1 x.2 = true := hx
    rw [hx]
    simp only [Bool.and_true, decide_eq_true_eq]
    omega
  rw [hrb] at HCR
  have hpb : thereB (p.1, p.2) = true := hp
  rw [hpb] at HTH
  have HGT := Lib.hid (fun (wx : World) (hf : Fr w.heap.size [] w wx) => ctget_any gt gm T p wx (h.fr hf h.bk.lt (by simp) h.mp.lt (by simp)))
  have HRN := Lib.hid (fun (wx : World) (hf : Fr w.heap.size [] w wx) => vrun_any Ap cp B l s x (ccT (T p)) wx hsf (hrd.fr hf hB (by simp)) (Nat.le_trans hB hf.size) hx (cvB_ok hT))
  have hS2 : setB2 p (cvT (celP l x (ccT (T p)))) = true := by
    unfold setB2
    rw [hp, cvT_ok k1]
    rfl
  have HST := Lib.hid (fun (wx : World) (hf : Fr w.heap.size [] w wx) => (by
    have h2 := ctset_any gt gm T p (cvT (celP l x (ccT (T p)))) wx (h.fr hf h.bk.lt (by simp) h.mp.lt (by simp))
    unfold SetOut at h2
    simp only [hS2, if_true] at h2
    exact h2 : Calls Tryz.prog 31 #[.pointer (some ⟨gt, 0, none⟩), .int .i64 p.1, .int .i64 p.2, cvV (cvT (celP l x (ccT (T p))))] wx fun e w' => e = .returned (.int .i64 0) ∧ CT w' gt gm (updT T p (cvT (celP l x (ccT (T p))))) ∧ Fr wx.heap.size [gm] wx w'))
  obtain ⟨c, hc⟩ : ∃ c, c = ccT (T p) := ⟨_, rfl⟩
  have hcv : cvV (T p) = c4 c := by rw [hc]; rfl
  unfold TRunOut
  rw [hcv] at HGT
  rw [← hc] at HRN HST hn ⊢
  obtain ⟨o, ho⟩ : ∃ o, o = outP_ l x c := ⟨_, rfl⟩
  obtain ⟨d, hd⟩ : ∃ d, d = celP l x c := ⟨_, rfl⟩
  unfold RunOut at HRN
  rw [← ho, ← hd] at HRN
  rw [← hd] at HST
  rw [← ho] at hn
  rw [← ho, ← hd]
  have hgm := h.mp.lt
  have fa := (Fr.refl w.heap.size [] w).alloc (Nat.le_refl _) (.cells #[.int .i64 p.2, .int .i64 x.1, .int .i64 x.2] 56)
  have BX := Lib.hid (Blk.new w 56 #[.int .i64 p.2, .int .i64 x.1, .int .i64 x.2])
  have FA := Lib.hid fa
  obtain ⟨nl, hnl⟩ : ∃ nl, nl = l.length := ⟨_, rfl⟩
  rw [← hnl] at HRN ⊢
  clear h hsf hrd hx hp hT k1 k2 hrb hpb hS2 hc hcv ho hd fa hnl
  obtain ⟨id, key⟩ := p
  simp only at *
  go_enter Tryz.func115, Tryz.ntmps115
  go_upto_region 1 with fail
  generalize w.alloc (.cells #[.int .i64 key, .int .i64 x.1, .int .i64 x.2] 56) = w1 at *
  obtain ⟨gx, hgx⟩ : ∃ g, g = w.heap.size := ⟨_, rfl⟩
  rw [← hgx] at BX ⊢
  have HGX := Lib.hid hgx
  clear hgx
  have x0 := BX.out.cell 0
  have x1 := BX.out.cell 1
  have x2 := BX.out.cell 2
  simp at x0 x1 x2
  go_wp2_with fail
  refine (HTH.out w1).mono ?_
  rintro e w2 ⟨rfl, rfl⟩
  go_wp2_with fail
  refine (HCR.out _).mono ?_
  rintro e w2 ⟨rfl, f2⟩
  have BX2 := Lib.hid (BX.out.fr f2 BX.out.lt (by simp))
  have FA2 := Lib.hid (FA.out.trans (f2.mono (B' := w.heap.size) (L' := []) FA.out.size (by simp)))
  clear x0 x1 x2 f2 BX FA
  have x0 := BX2.out.cell 0
  have x1 := BX2.out.cell 1
  have x2 := BX2.out.cell 2
  simp at x0 x1 x2
  go_upto_region 3 with fail
  have xa0 := (BX2.out.alloc (.cells #[.slice none 0 0, .int .i64 0, .int .i64 0, .int .i64 0, .int .i64 0, .int .i64 0] 213)).cell 0
  have xa1 := (BX2.out.alloc (.cells #[.slice none 0 0, .int .i64 0, .int .i64 0, .int .i64 0, .int .i64 0, .int .i64 0] 213)).cell 1
  have xa2 := (BX2.out.alloc (.cells #[.slice none 0 0, .int .i64 0, .int .i64 0, .int .i64 0, .int .i64 0, .int .i64 0] 213)).cell 2
  simp at xa0 xa1 xa2
  go_cut [10, 11] (fun s10 s11 wx => ∃ A n cc st gp, s10 = .pointer (some ⟨gp, 0, none⟩) ∧ s11 = .int .i64 0 ∧ n = o.length ∧ Blk wx gp 213 #[.slice A n cc, .int .i64 d.1.1, .int .i64 d.1.2, .int .i64 d.2.1, .int .i64 d.2.2, .int .i64 st] ∧ Blk wx gx 56 #[.int .i64 key, .int .i64 x.1, .int .i64 x.2] ∧ wx.ownsRow w.heap.size 42 2 (.slice A n cc) n (cellsV o) ∧ Fr w.heap.size [] w wx ∧ w.heap.size ≤ gp)
  case first =>
    go_region_law ((rw [if_pos (by rfl)]; go_simp; first | (with_reducible refine (HGT.out w2.drew FA2.out.drew).mono ?_; rintro e w3 ⟨rfl, f3⟩; have B3 := (BX2.out.drew).fr f3 (BX2.out.drew).lt (by simp); have FA3 := (FA2.out.drew).trans (f3.mono (B' := w.heap.size) (L' := []) (FA2.out.drew).size (by simp)); have y0 := B3.cell 0; have y1 := B3.cell 1; have y2 := B3.cell 2; simp at y0 y1 y2; have ya0 := (B3.alloc (.cells #[.slice none 0 0, .int .i64 0, .int .i64 0, .int .i64 0, .int .i64 0, .int .i64 0] 213)).cell 0; have ya1 := (B3.alloc (.cells #[.slice none 0 0, .int .i64 0, .int .i64 0, .int .i64 0, .int .i64 0, .int .i64 0] 213)).cell 1; have ya2 := (B3.alloc (.cells #[.slice none 0 0, .int .i64 0, .int .i64 0, .int .i64 0, .int .i64 0, .int .i64 0] 213)).cell 2; simp at ya0 ya1 ya2; dsimp only) | (with_reducible refine (HGT.out (w2.alloc (.cells #[.slice none 0 0, .int .i64 0, .int .i64 0, .int .i64 0, .int .i64 0, .int .i64 0] 213)).drew (FA2.out.alloc FA2.out.size (.cells #[.slice none 0 0, .int .i64 0, .int .i64 0, .int .i64 0, .int .i64 0, .int .i64 0] 213)).drew).mono ?_; rintro e w3 ⟨rfl, f3⟩; have B3 := ((BX2.out.alloc (.cells #[.slice none 0 0, .int .i64 0, .int .i64 0, .int .i64 0, .int .i64 0, .int .i64 0] 213)).drew).fr f3 ((BX2.out.alloc (.cells #[.slice none 0 0, .int .i64 0, .int .i64 0, .int .i64 0, .int .i64 0, .int .i64 0] 213)).drew).lt (by simp); have FA3 := ((FA2.out.alloc FA2.out.size (.cells #[.slice none 0 0, .int .i64 0, .int .i64 0, .int .i64 0, .int .i64 0, .int .i64 0] 213)).drew).trans (f3.mono (B' := w.heap.size) (L' := []) ((FA2.out.alloc FA2.out.size (.cells #[.slice none 0 0, .int .i64 0, .int .i64 0, .int .i64 0, .int .i64 0, .int .i64 0] 213)).drew).size (by simp)); have y0 := B3.cell 0; have y1 := B3.cell 1; have y2 := B3.cell 2; simp at y0 y1 y2; have BO3 := (Blk.new w2 213 #[.slice none 0 0, .int .i64 0, .int .i64 0, .int .i64 0, .int .i64 0, .int .i64 0]).drew.fr f3 (Blk.new w2 213 #[.slice none 0 0, .int .i64 0, .int .i64 0, .int .i64 0, .int .i64 0, .int .i64 0]).drew.lt (by simp); dsimp only) | (with_reducible refine (HRN.out w3 FA3).mono ?_; rintro e w4 ⟨A, n, cc, st, hn4, rfl, how4, f4⟩; have HN4 := Lib.hid hn4; clear hn4; have BX4 := B3.fr f4 B3.lt (by simp); try (have BO4 := BO3.fr f4 BO3.lt (by simp); have o0 := (BO4).cell 0; have o1 := (BO4).cell 1; have o2 := (BO4).cell 2; have o3 := (BO4).cell 3; have o4 := (BO4).cell 4; have o5 := (BO4).cell 5; have z0 := (BO4).frozen 0; have z1 := (BO4).frozen 1; have z2 := (BO4).frozen 2; have z3 := (BO4).frozen 3; have z4 := (BO4).frozen 4; have z5 := (BO4).frozen 5; simp at o0 o1 o2 o3 o4 o5); dsimp only) | (with_reducible refine (HRN.out (w3.alloc (.cells #[.slice none 0 0, .int .i64 0, .int .i64 0, .int .i64 0, .int .i64 0, .int .i64 0] 213)) (FA3.alloc FA3.size (.cells #[.slice none 0 0, .int .i64 0, .int .i64 0, .int .i64 0, .int .i64 0, .int .i64 0] 213))).mono ?_; rintro e w4 ⟨A, n, cc, st, hn4, rfl, how4, f4⟩; have HN4 := Lib.hid hn4; clear hn4; have BX4 := (B3.alloc (.cells #[.slice none 0 0, .int .i64 0, .int .i64 0, .int .i64 0, .int .i64 0, .int .i64 0] 213)).fr f4 (B3.alloc (.cells #[.slice none 0 0, .int .i64 0, .int .i64 0, .int .i64 0, .int .i64 0, .int .i64 0] 213)).lt (by simp); have BO4 := (Blk.new w3 213 #[.slice none 0 0, .int .i64 0, .int .i64 0, .int .i64 0, .int .i64 0, .int .i64 0]).fr f4 (Blk.new w3 213 #[.slice none 0 0, .int .i64 0, .int .i64 0, .int .i64 0, .int .i64 0, .int .i64 0]).lt (by simp); have o0 := (BO4).cell 0; have o1 := (BO4).cell 1; have o2 := (BO4).cell 2; have o3 := (BO4).cell 3; have o4 := (BO4).cell 4; have o5 := (BO4).cell 5; have z0 := (BO4).frozen 0; have z1 := (BO4).frozen 1; have z2 := (BO4).frozen 2; have z3 := (BO4).frozen 3; have z4 := (BO4).frozen 4; have z5 := (BO4).frozen 5; simp at o0 o1 o2 o3 o4 o5; dsimp only)))
    all_goals
      go_wp2_with fail
      go_meet
      first
       | (with_reducible refine ⟨A, n, cc, st, w4.heap.size, rfl, rfl, HN4.out, ?_, ?_, ?_, ?_, ?_⟩
          · exact Blk.new w4 _ _
          · exact BX4.alloc _
          · exact ownsRow_fr (ownsRow_base how4 (by first | exact FA3.size | exact (FA3.alloc FA3.size _).size)) ((Fr.refl w4.heap.size [] w4).alloc (Nat.le_refl _) _) (fun q hq => ⟨(how4.lt q hq).2, by simp⟩)
          · exact (FA3.trans (f4.mono (B' := w.heap.size) (L' := []) FA3.size (by simp))).alloc (Nat.le_trans FA3.size f4.size) _
          · exact Nat.le_trans FA3.size f4.size)
       | (with_reducible refine ⟨A, n, cc, st, w3.heap.size, rfl, rfl, HN4.out, ?_, ?_, ?_, ?_, ?_⟩
          · have bs := ((((((BO4.set_ 0 (.slice A n cc)).set_ 1 (.int .i64 d.1.1)).set_ 2 (.int .i64 d.1.2)).set_ 3 (.int .i64 d.2.1)).set_ 4 (.int .i64 d.2.2)).set_ 5 (.int .i64 st))
            simp only [List.setIfInBounds_toArray, List.set_cons_zero, List.set_cons_succ] at bs
            exact bs
          · exact BX4.fr (((((((Fr.refl w4.heap.size [w3.heap.size] w4).setCell (p := ⟨w3.heap.size, 0, none⟩) (.inr (by simp)) (.slice A n cc)).setCell (p := ⟨w3.heap.size, 1, none⟩) (.inr (by simp)) (.int .i64 d.1.1)).setCell (p := ⟨w3.heap.size, 2, none⟩) (.inr (by simp)) (.int .i64 d.1.2)).setCell (p := ⟨w3.heap.size, 3, none⟩) (.inr (by simp)) (.int .i64 d.2.1)).setCell (p := ⟨w3.heap.size, 4, none⟩) (.inr (by simp)) (.int .i64 d.2.2)).setCell (p := ⟨w3.heap.size, 5, none⟩) (.inr (by simp)) (.int .i64 st)) BX4.lt (by have h1 := B3.lt; have h2 := BX2.out.lt; simp; omega)
          · have hne := BO4.ne_own how4 (by decide)
            exact ownsRow_fr (ownsRow_base how4 ((FA3.alloc FA3.size (.cells #[.slice none 0 0, .int .i64 0, .int .i64 0, .int .i64 0, .int .i64 0, .int .i64 0] 213))).size) (((((((Fr.refl w4.heap.size [w3.heap.size] w4).setCell (p := ⟨w3.heap.size, 0, none⟩) (.inr (by simp)) (.slice A n cc)).setCell (p := ⟨w3.heap.size, 1, none⟩) (.inr (by simp)) (.int .i64 d.1.1)).setCell (p := ⟨w3.heap.size, 2, none⟩) (.inr (by simp)) (.int .i64 d.1.2)).setCell (p := ⟨w3.heap.size, 3, none⟩) (.inr (by simp)) (.int .i64 d.2.1)).setCell (p := ⟨w3.heap.size, 4, none⟩) (.inr (by simp)) (.int .i64 d.2.2)).setCell (p := ⟨w3.heap.size, 5, none⟩) (.inr (by simp)) (.int .i64 st)) (fun q hq => ⟨(how4.lt q hq).2, by simp; rintro rfl; exact hne hq.symm⟩)
          · have hwl : w.heap.size ≤ w3.heap.size := FA3.size
            exact (((FA3.alloc FA3.size (.cells #[.slice none 0 0, .int .i64 0, .int .i64 0, .int .i64 0, .int .i64 0, .int .i64 0] 213))).trans (f4.mono (B' := w.heap.size) (L' := []) ((FA3.alloc FA3.size (.cells #[.slice none 0 0, .int .i64 0, .int .i64 0, .int .i64 0, .int .i64 0, .int .i64 0] 213))).size (by simp))).trans (((((((((Fr.refl w4.heap.size [w3.heap.size] w4).setCell (p := ⟨w3.heap.size, 0, none⟩) (.inr (by simp)) (.slice A n cc)).setCell (p := ⟨w3.heap.size, 1, none⟩) (.inr (by simp)) (.int .i64 d.1.1)).setCell (p := ⟨w3.heap.size, 2, none⟩) (.inr (by simp)) (.int .i64 d.1.2)).setCell (p := ⟨w3.heap.size, 3, none⟩) (.inr (by simp)) (.int .i64 d.2.1)).setCell (p := ⟨w3.heap.size, 4, none⟩) (.inr (by simp)) (.int .i64 d.2.2)).setCell (p := ⟨w3.heap.size, 5, none⟩) (.inr (by simp)) (.int .i64 st))).mono (B' := w.heap.size) (L' := []) (Nat.le_trans ((FA3.alloc FA3.size (.cells #[.slice none 0 0, .int .i64 0, .int .i64 0, .int .i64 0, .int .i64 0, .int .i64 0] 213))).size f4.size) (by simp; omega))
          · exact FA3.size)
       | (with_reducible refine ⟨A, n, cc, st, w2.heap.size, rfl, rfl, HN4.out, ?_, ?_, ?_, ?_, ?_⟩
          · have bs := ((((((BO4.set_ 0 (.slice A n cc)).set_ 1 (.int .i64 d.1.1)).set_ 2 (.int .i64 d.1.2)).set_ 3 (.int .i64 d.2.1)).set_ 4 (.int .i64 d.2.2)).set_ 5 (.int .i64 st))
            simp only [List.setIfInBounds_toArray, List.set_cons_zero, List.set_cons_succ] at bs
            exact bs
          · exact BX4.fr (((((((Fr.refl w4.heap.size [w2.heap.size] w4).setCell (p := ⟨w2.heap.size, 0, none⟩) (.inr (by simp)) (.slice A n cc)).setCell (p := ⟨w2.heap.size, 1, none⟩) (.inr (by simp)) (.int .i64 d.1.1)).setCell (p := ⟨w2.heap.size, 2, none⟩) (.inr (by simp)) (.int .i64 d.1.2)).setCell (p := ⟨w2.heap.size, 3, none⟩) (.inr (by simp)) (.int .i64 d.2.1)).setCell (p := ⟨w2.heap.size, 4, none⟩) (.inr (by simp)) (.int .i64 d.2.2)).setCell (p := ⟨w2.heap.size, 5, none⟩) (.inr (by simp)) (.int .i64 st)) BX4.lt (by have h1 := B3.lt; have h2 := BX2.out.lt; simp; omega)
          · have hne := BO4.ne_own how4 (by decide)
            exact ownsRow_fr (ownsRow_base how4 (FA3).size) (((((((Fr.refl w4.heap.size [w2.heap.size] w4).setCell (p := ⟨w2.heap.size, 0, none⟩) (.inr (by simp)) (.slice A n cc)).setCell (p := ⟨w2.heap.size, 1, none⟩) (.inr (by simp)) (.int .i64 d.1.1)).setCell (p := ⟨w2.heap.size, 2, none⟩) (.inr (by simp)) (.int .i64 d.1.2)).setCell (p := ⟨w2.heap.size, 3, none⟩) (.inr (by simp)) (.int .i64 d.2.1)).setCell (p := ⟨w2.heap.size, 4, none⟩) (.inr (by simp)) (.int .i64 d.2.2)).setCell (p := ⟨w2.heap.size, 5, none⟩) (.inr (by simp)) (.int .i64 st)) (fun q hq => ⟨(how4.lt q hq).2, by simp; rintro rfl; exact hne hq.symm⟩)
          · have hwl : w.heap.size ≤ w2.heap.size := FA2.out.size
            exact ((FA3).trans (f4.mono (B' := w.heap.size) (L' := []) (FA3).size (by simp))).trans (((((((((Fr.refl w4.heap.size [w2.heap.size] w4).setCell (p := ⟨w2.heap.size, 0, none⟩) (.inr (by simp)) (.slice A n cc)).setCell (p := ⟨w2.heap.size, 1, none⟩) (.inr (by simp)) (.int .i64 d.1.1)).setCell (p := ⟨w2.heap.size, 2, none⟩) (.inr (by simp)) (.int .i64 d.1.2)).setCell (p := ⟨w2.heap.size, 3, none⟩) (.inr (by simp)) (.int .i64 d.2.1)).setCell (p := ⟨w2.heap.size, 4, none⟩) (.inr (by simp)) (.int .i64 d.2.2)).setCell (p := ⟨w2.heap.size, 5, none⟩) (.inr (by simp)) (.int .i64 st))).mono (B' := w.heap.size) (L' := []) (Nat.le_trans (FA3).size f4.size) (by simp; omega))
          · exact FA2.out.size)
  case rest =>
    obtain ⟨A, n, cc, st, gp, rfl, rfl, hn0, hbp, hbx, how, hf4, hgp⟩ := hcut
    have HN := Lib.hid hn0
    have BP := Lib.hid hbp
    have BX := Lib.hid hbx
    have HOW := Lib.hid how
    have F4 := Lib.hid hf4
    have HS4 := Lib.hid (HST.out wc hf4)
    have hn1 : n ≤ 1000 := by omega
    have hgxp : gx < wc.heap.size := hbx.lt
    clear hn0 hbp hbx how hf4 HST HRN HGT HTH HCR BX2 FA2 x0 x1 x2 xa0 xa1 xa2 hn
    have p1 := BP.out.cell 1
    have p2 := BP.out.cell 2
    have p3 := BP.out.cell 3
    have p4 := BP.out.cell 4
    have x0 := BX.out.cell 0
    simp at p1 p2 p3 p4 x0
    go_wp2_with fail
    refine HS4.out.mono ?_
    rintro e w5 ⟨rfl, hct, f5⟩
    have HCT := Lib.hid hct
    have F5 := Lib.hid ((F4.out.mono (B' := w.heap.size) (L' := [gm]) (Nat.le_refl _) (by simp)).trans (f5.mono (B' := w.heap.size) (L' := [gm]) F4.out.size (by simp)))
    have BX5 := Lib.hid (BX.out.fr f5 BX.out.lt (by have := HGX.out; simp; omega))
    have BP5 := Lib.hid (BP.out.fr f5 BP.out.lt (by simp; omega))
    have HOW5 := ownsRow_fr HOW.out f5 (fun q hq => ⟨(HOW.out.lt q hq).2, by have := (HOW.out.lt q hq).1; simp; omega⟩)
    have HRV := Lib.hid (Reads.of_own HOW5)
    have hw5 : w.heap.size ≤ w5.heap.size := F5.out.size
    have HXL := Lib.hid BX5.out.lt
    clear hct f5 HOW5 HS4 BX BP HOW F4 p1 p2 p3 p4 x0
    have p0 := BP5.out.cell 0
    simp at p0
    go_wp2_with fail
    go_loopg [12, 14, 54] n (fun g s12 s14 s54 wr => ∃ (k : Nat) (A' : Option Addr) (c' : Nat), k ≤ n ∧ g = n - k ∧ s12 = .slice A' k c' ∧ (s14 = undef ∨ ∃ a, s14 = .pointer a) ∧ s54 = .int .i64 k ∧ RowKit.Hid (wr.ownsRow w5.heap.size 56 3 (.slice A' k c') k (cellsR (rcL key (o.take k)))) ∧ RowKit.Hid (Fr w5.heap.size [] w5 wr))
    case atStart => exact ⟨0, none, 0, Nat.zero_le _, rfl, rfl, .inl rfl, rfl, Lib.hid (World.ownsRow_nil _ _ _ _), Lib.hid (Fr.refl _ _ _)⟩
    case round =>
      clear p0
      obtain ⟨k, A', c', hk, rfl, rfl, h14, rfl, HO, FR⟩ := hrel
      have hszr := FR.out.size
      by_cases hkn : k < n
      · have hki : (k : Int) < (n : Int) := by omega
        have hk0 : (0 : Int) ≤ (k : Int) := by omega
        obtain ⟨v, hv⟩ : ∃ v, o[k]? = some v := ⟨_, List.getElem?_eq_getElem (by rw [← HN.out]; exact hkn)⟩
        obtain ⟨b, off, rfl, hb, p0, p1⟩ := reads_val (by rw [← HN.out]; exact HRV.out.fr FR.out (Nat.le_refl _) (by simp)) hv
        have HTK := Lib.hid (show o.take (k + 1) = o.take k ++ [v] by rw [List.take_add_one, hv]; rfl)
        have fa := (Fr.refl wr.heap.size [] wr).alloc (Nat.le_refl _) (.cells #[.int .i64 v.1, .int .i64 v.2] 42)
        have BV := Lib.hid (Blk.new wr 42 #[.int .i64 v.1, .int .i64 v.2])
        have FRa := Lib.hid (FR.out.trans (fa.mono (B' := w5.heap.size) (L' := []) hszr (by simp)))
        have HOa := Lib.hid (ownsRow_fr HO.out fa (fun q hq => ⟨(HO.out.lt q hq).2, by simp⟩))
        have hx := (BX5.out.fr FRa.out HXL.out (by simp)).cell 0
        simp at hx
        clear fa hv HO FR
        go_upto_region 11 with fail
        clear p0 p1
        generalize wr.alloc (.cells #[.int .i64 v.1, .int .i64 v.2] 42) = wa at *
        have v0 := BV.out.cell 0
        have v1 := BV.out.cell 1
        simp at v0 v1
        have hown := HOa.out
        have hsz := FRa.out.size
        go_wp2_with (at_builtin; refine wpList_app_lit _ rfl (.tmp 58) (.tmp 63) recsTy rfl w5.heap.size (.slice A' k c') k _ rfl hown 1 1 _ rfl rfl (by simp [Value.oneCell']) (by omega) (by omega) hsz ?_; intro A3 c3 w6 hown6 hg6 hat6)
        have f6 := Fr.of_app hg6 hown hsz
        have HO6 := Lib.hid (show w6.ownsRow w5.heap.size 56 3 (.slice A3 (k + 1) c3) (k + 1) (cellsR (rcL key (o.take (k + 1)))) by
          rw [HTK.out]
          have e : cellsR (rcL key (o.take k ++ [v])) = cellsR (rcL key (o.take k)) ++ [.int .i64 key, .int .i64 v.1, .int .i64 v.2] := by simp [rcL, cellsR, rcF_C]
          rw [e]
          exact hown6)
        have FR6 := Lib.hid (FRa.out.trans f6)
        clear hown6 hg6 hat6 f6 hown v0 v1 hx
        go_roundg (n - (k + 1))
        case measure => omega
        case rel => exact ⟨k + 1, A3, c3, by omega, rfl, rfl, .inr ⟨_, rfl⟩, by go_num, HO6, FR6⟩
      · obtain rfl : n = k := by omega
        have hT : o.take n = o := List.take_of_length_le (by rw [HN.out]; exact Nat.le_refl _)
        rw [hT] at HO
        clear hT
        go_wp2_with fail
        go_ret2
        exact ⟨A', n, c', HN.out, rfl, ownsRow_base HO.out hw5, HCT.out.fr FR.out HCT.out.bk.lt (by simp) HCT.out.mp.lt (by simp), F5.out.trans (FR.out.mono (B' := w.heap.size) (L' := [gm]) hw5 (by simp))⟩
end Go.Proofs.YthfibggbipkmfaaGreat
