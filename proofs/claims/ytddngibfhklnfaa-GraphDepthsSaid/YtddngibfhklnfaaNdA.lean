/- The contracts of graph.own, graph.unlike and graph.Find. -/
import Derived.Test.YtddngibfhklnfaaNd
import Derived.Test.YtddngibfhklnfaaSortI
namespace Go.Proofs.Ytddngibfhklnfaa
open Go.RowKit Go.Fb
theorem blk_nd (x : Nd) (sf sp a b : Value) {w : World} {g : Nat} (h : Blk w g 38 (ndA x sf sp)) : Blk ((w.setCell ⟨g, 2, none⟩ a).setCell ⟨g, 3, none⟩ b) g 38 (ndA x a b) := by
  have := (h.set_ 2 a).set_ 3 b
  simpa using this
/-- A node's cells, stored one by one. -/
def setNd (w : World) (g : Nat) (u0 u1 u2 u3 u4 u5 u6 u7 u8 u9 u10 u11 u12 : Value) : World := (((((((((((((w.setCell ⟨g, 0, none⟩ u0).setCell ⟨g, 1, none⟩ u1).setCell ⟨g, 2, none⟩ u2).setCell ⟨g, 3, none⟩ u3).setCell ⟨g, 4, none⟩ u4).setCell ⟨g, 5, none⟩ u5).setCell ⟨g, 6, none⟩ u6).setCell ⟨g, 7, none⟩ u7).setCell ⟨g, 8, none⟩ u8).setCell ⟨g, 9, none⟩ u9).setCell ⟨g, 10, none⟩ u10).setCell ⟨g, 11, none⟩ u11).setCell ⟨g, 12, none⟩ u12)
theorem blk_setNd {w : World} {g t : Nat} {a0 a1 a2 a3 a4 a5 a6 a7 a8 a9 a10 a11 a12 : Value} (h : Blk w g t #[a0, a1, a2, a3, a4, a5, a6, a7, a8, a9, a10, a11, a12]) (u0 u1 u2 u3 u4 u5 u6 u7 u8 u9 u10 u11 u12 : Value) : Blk (setNd w g u0 u1 u2 u3 u4 u5 u6 u7 u8 u9 u10 u11 u12) g t #[u0, u1, u2, u3, u4, u5, u6, u7, u8, u9, u10, u11, u12] := by
  have := ((((((((((((h.set_ 0 u0).set_ 1 u1).set_ 2 u2).set_ 3 u3).set_ 4 u4).set_ 5 u5).set_ 6 u6).set_ 7 u7).set_ 8 u8).set_ 9 u9).set_ 10 u10).set_ 11 u11).set_ 12 u12
  unfold setNd
  simpa using this
theorem fr_setNd {B g : Nat} {L : List Nat} {a w : World} (h : Fr B L a w) (hg : B ≤ g ∨ g ∈ L) (u0 u1 u2 u3 u4 u5 u6 u7 u8 u9 u10 u11 u12 : Value) : Fr B L a (setNd w g u0 u1 u2 u3 u4 u5 u6 u7 u8 u9 u10 u11 u12) :=
  ((((((((((((h.setCell hg u0).setCell hg u1).setCell hg u2).setCell hg u3).setCell hg u4).setCell hg u5).setCell hg u6).setCell hg u7).setCell hg u8).setCell hg u9).setCell hg u10).setCell hg u11).setCell hg u12
/-- A slice that does not lie below a block number. -/
def Fresh (b : Nat) (v : Value) : Prop := ∀ A n c, v = .slice A n c → 0 < n → ∀ ad, A = some ad → b ≤ ad.block
theorem fresh_own {w : World} {base e size n c b : Nat} {A : Option Addr} {xs : List Value} (h : w.ownsRow base e size (.slice A n c) n xs) (hb : b ≤ base) : Fresh b (.slice A n c) := by
  intro A' n' c' hv _ ad ha
  injection hv with h1 h2 h3
  subst h1
  obtain ⟨A2, c2, hv2, hs, _⟩ := ownsRow_shape h
  injection hv2 with h4 _ _
  subst h4
  exact Nat.le_trans hb (hs ad ha).2.2.1
def OwnOut (x : Nd) (w : World) (e : Ending) (w' : World) : Prop := ∃ sf sp, e = .returned (.agg (ndA x sf sp)) ∧ NdIn w' w'.heap.size (x, sf, sp) ∧ Fresh w.heap.size sf ∧ Fresh w.heap.size sp ∧ Fr w.heap.size [] w w'
set_option maxRecDepth 100000 in
set_option maxHeartbeats 4000000 in
theorem own_any (x : Nd) (sf sp : Value) (B : Nat) (w : World) (h : NdIn w B (x, sf, sp)) (hB : B ≤ w.heap.size) (h1 : x.fr.length ≤ 1000000) (h2 : x.pg.length ≤ 1000000) :
    Calls Try.prog 54 #[.agg (ndA x sf sp)] w (OwnOut x w) := by
  obtain ⟨⟨Af, cf, hf1, hf2⟩, ⟨Ap, cp, hp1, hp2⟩⟩ := h
  simp only at hf1 hf2 hp1 hp2
  subst hf1
  subst hp1
  obtain ⟨nf, hnf⟩ : ∃ n, n = x.fr.length := ⟨_, rfl⟩
  obtain ⟨np, hnp⟩ : ∃ n, n = x.pg.length := ⟨_, rfl⟩
  have HF := Lib.hid (fun (wx : World) (hx : Fr w.heap.size [] w wx) => (by rw [hnf]; exact iclone_any Af x.fr.length cf B x.fr wx rfl h1 (hf2.fr hx hB (by simp)) (Nat.le_trans hB hx.size) : Calls Try.prog 73 #[.slice Af nf cf] wx fun e w' => ∃ A' c', e = .returned (.slice A' nf c') ∧ w'.ownsRow wx.heap.size 3 1 (.slice A' nf c') nf (x.fr.map (Value.int .i64)) ∧ Fr wx.heap.size [] wx w'))
  have HP := Lib.hid (fun (wx : World) (hx : Fr w.heap.size [] w wx) => (by rw [hnp]; exact pclone_any Ap x.pg.length cp B x.pg wx rfl h2 (hp2.fr hx hB (by simp)) (Nat.le_trans hB hx.size) : Calls Try.prog 72 #[.slice Ap np cp] wx fun e w' => ∃ A' c', e = .returned (.slice A' np c') ∧ w'.ownsRow wx.heap.size 71 2 (.slice A' np c') np (cellsI x.pg) ∧ Fr wx.heap.size [] wx w'))
  rw [← hnf, ← hnp]
  have HNF := Lib.hid hnf
  have HNP := Lib.hid hnp
  clear hf2 hp2 hnf hnp
  have BX := Lib.hid ((Blk.new w 38 (ndA x (.slice Af nf cf) (.slice Ap np cp))).alloc (.cells #[.int .i64 0, .int .i64 0, .slice none 0 0, .slice none 0 0, .int .i64 0, .int .i64 0, .int .i64 0, .int .i64 0, .int .i64 0, .int .i64 0, .int .i64 0, .int .i64 0, .int .i64 0] 38))
  have BR0 := Blk.new (w.alloc (.cells (ndA x (.slice Af nf cf) (.slice Ap np cp)) 38)) 38 #[.int .i64 0, .int .i64 0, .slice none 0 0, .slice none 0 0, .int .i64 0, .int .i64 0, .int .i64 0, .int .i64 0, .int .i64 0, .int .i64 0, .int .i64 0, .int .i64 0, .int .i64 0]
  rw [World.size_alloc] at BR0
  have BR := Lib.hid BR0
  have F1 := Lib.hid (((Fr.refl w.heap.size [] w).alloc (Nat.le_refl _) (.cells (ndA x (.slice Af nf cf) (.slice Ap np cp)) 38)).alloc (by simp) (.cells #[.int .i64 0, .int .i64 0, .slice none 0 0, .slice none 0 0, .int .i64 0, .int .i64 0, .int .i64 0, .int .i64 0, .int .i64 0, .int .i64 0, .int .i64 0, .int .i64 0, .int .i64 0] 38))
  clear BR0
  go_enter Try.func54, Try.ntmps54
  go_wp2_with fail
  generalize (w.alloc _).alloc _ = w1 at *
  obtain ⟨gx, hgx⟩ : ∃ g, g = w.heap.size := ⟨_, rfl⟩
  rw [← hgx] at BX BR
  try rw [← hgx]
  have hgw : w.heap.size ≤ gx := by omega
  clear hgx
  have hx1 := BX.out.lt
  have hr1 := BR.out.lt
  have INV := Lib.hid ((Fr.refl w1.heap.size [] w1).drew)
  have x2 := BX.out.cell 2
  have x3 := BX.out.cell 3
  have z2 := BX.out.frozen 2
  have z3 := BX.out.frozen 3
  simp at x2 x3
  have HW := Lib.hid (fun (wx : World) (h : Fr w1.heap.size [] w1 wx) => F1.out.trans (h.mono (B' := w.heap.size) (L' := []) F1.out.size (by simp)))
  first
    | (go_region_with
        (first
          | (go_at_call 73; refine (HF.out _ (HW.out _ INV.out)).mono ?_; rintro e w' ⟨A1, c1, rfl, ho, hf⟩; have HO1 := Lib.hid (ownsRow_base ho INV.out.size); have INV := Lib.hid (INV.out.trans (hf.mono INV.out.size (by simp))); have x2 := (BX.out.fr INV.out BX.out.lt (by simp)).cell 2; have x3 := (BX.out.fr INV.out BX.out.lt (by simp)).cell 3; have z2 := (BX.out.fr INV.out BX.out.lt (by simp)).frozen 2; have z3 := (BX.out.fr INV.out BX.out.lt (by simp)).frozen 3; simp at x2 x3; clear hf ho)
          | (go_at_call 72; refine (HP.out _ (HW.out _ INV.out)).mono ?_; rintro e w' ⟨A2, c2, rfl, ho, hf⟩; have HO1 := Lib.hid (ownsRow_fr HO1.out hf (fun q hq => ⟨(HO1.out.lt q hq).2, by simp⟩)); have HO2 := Lib.hid (ownsRow_base ho INV.out.size); have INV := Lib.hid (INV.out.trans (hf.mono INV.out.size (by simp))); have x2 := (BX.out.fr INV.out BX.out.lt (by simp)).cell 2; have x3 := (BX.out.fr INV.out BX.out.lt (by simp)).cell 3; have z2 := (BX.out.fr INV.out BX.out.lt (by simp)).frozen 2; have z3 := (BX.out.fr INV.out BX.out.lt (by simp)).frozen 3; simp at x2 x3; clear hf ho)))
    | fail
  all_goals
    have BXs := Lib.hid (blk_nd x (.slice Af nf cf) (.slice Ap np cp) (.slice A1 nf c1) (.slice A2 np c2) (BX.out.fr INV.out BX.out.lt (by simp)))
    have BRs := Lib.hid (((BR.out.fr INV.out BR.out.lt (by simp)).far (p := ⟨gx, 2, none⟩) (by simp) (.slice A1 nf c1)).far (p := ⟨gx, 3, none⟩) (by simp) (.slice A2 np c2))
    have FS := Lib.hid (((HW.out _ INV.out).setCell (p := ⟨gx, 2, none⟩) (.inl hgw) (.slice A1 nf c1)).setCell (p := ⟨gx, 3, none⟩) (.inl hgw) (.slice A2 np c2))
    have hfs := ((Fr.refl w'.heap.size [gx] w').setCell (p := ⟨gx, 2, none⟩) (.inr (by simp)) (.slice A1 nf c1)).setCell (p := ⟨gx, 3, none⟩) (.inr (by simp)) (.slice A2 np c2)
    have O1 := Lib.hid (ownsRow_fr HO1.out hfs (fun q hq => ⟨(HO1.out.lt q hq).2, by have := (HO1.out.lt q hq).1; simp; omega⟩))
    have O2 := Lib.hid (ownsRow_fr HO2.out hfs (fun q hq => ⟨(HO2.out.lt q hq).2, by have := (HO2.out.lt q hq).1; simp; omega⟩))
    clear hfs HO1 HO2 INV BX BR HW F1 x2 x3 z2 z3 HF HP
    generalize (w'.setCell ⟨gx, 2, none⟩ (.slice A1 nf c1)).setCell ⟨gx, 3, none⟩ (.slice A2 np c2) = w5 at *
    have q0 := BXs.out.cell 0
    have q1 := BXs.out.cell 1
    have q2 := BXs.out.cell 2
    have q3 := BXs.out.cell 3
    have q4 := BXs.out.cell 4
    have q5 := BXs.out.cell 5
    have q6 := BXs.out.cell 6
    have q7 := BXs.out.cell 7
    have q8 := BXs.out.cell 8
    have q9 := BXs.out.cell 9
    have q10 := BXs.out.cell 10
    have q11 := BXs.out.cell 11
    have q12 := BXs.out.cell 12
    simp at q0 q1 q2 q3 q4 q5 q6 q7 q8 q9 q10 q11 q12
    have s0 := BRs.out.cell 0
    have s1 := BRs.out.cell 1
    have s2 := BRs.out.cell 2
    have s3 := BRs.out.cell 3
    have s4 := BRs.out.cell 4
    have s5 := BRs.out.cell 5
    have s6 := BRs.out.cell 6
    have s7 := BRs.out.cell 7
    have s8 := BRs.out.cell 8
    have s9 := BRs.out.cell 9
    have s10 := BRs.out.cell 10
    have s11 := BRs.out.cell 11
    have s12 := BRs.out.cell 12
    simp at s0 s1 s2 s3 s4 s5 s6 s7 s8 s9 s10 s11 s12
    have z0 := BRs.out.frozen 0
    have z1 := BRs.out.frozen 1
    have z2 := BRs.out.frozen 2
    have z3 := BRs.out.frozen 3
    have z4 := BRs.out.frozen 4
    have z5 := BRs.out.frozen 5
    have z6 := BRs.out.frozen 6
    have z7 := BRs.out.frozen 7
    have z8 := BRs.out.frozen 8
    have z9 := BRs.out.frozen 9
    have z10 := BRs.out.frozen 10
    have z11 := BRs.out.frozen 11
    have z12 := BRs.out.frozen 12
    go_wp2_with fail
    have BE := Lib.hid (blk_setNd BRs.out (.int .i64 x.id) (.int .i64 x.kind) (.slice A1 nf c1) (.slice A2 np c2) (.int .i64 x.par) (.int .i64 (x.rt 0)) (.int .i64 (x.rt 1)) (.int .i64 (x.rt 2)) (.int .i64 (x.rt 3)) (.int .i64 (x.rt 4)) (.int .i64 (x.rt 5)) (.int .i64 (x.rt 6)) (.int .i64 (x.rt 7)))
    have hgr : w.heap.size ≤ gx + 1 := by omega
    have FE := Lib.hid (fr_setNd FS.out (g := gx + 1) (.inl hgr) (.int .i64 x.id) (.int .i64 x.kind) (.slice A1 nf c1) (.slice A2 np c2) (.int .i64 x.par) (.int .i64 (x.rt 0)) (.int .i64 (x.rt 1)) (.int .i64 (x.rt 2)) (.int .i64 (x.rt 3)) (.int .i64 (x.rt 4)) (.int .i64 (x.rt 5)) (.int .i64 (x.rt 6)) (.int .i64 (x.rt 7)))
    have hfe := fr_setNd (Fr.refl w5.heap.size [gx + 1] w5) (g := gx + 1) (.inr (by simp)) (.int .i64 x.id) (.int .i64 x.kind) (.slice A1 nf c1) (.slice A2 np c2) (.int .i64 x.par) (.int .i64 (x.rt 0)) (.int .i64 (x.rt 1)) (.int .i64 (x.rt 2)) (.int .i64 (x.rt 3)) (.int .i64 (x.rt 4)) (.int .i64 (x.rt 5)) (.int .i64 (x.rt 6)) (.int .i64 (x.rt 7))
    have P1 := Lib.hid (Reads.of_own (ownsRow_fr O1.out hfe (fun q hq => ⟨(O1.out.lt q hq).2, by have := (O1.out.lt q hq).1; simp; omega⟩)))
    have P2 := Lib.hid (Reads.of_own (ownsRow_fr O2.out hfe (fun q hq => ⟨(O2.out.lt q hq).2, by have := (O2.out.lt q hq).1; simp; omega⟩)))
    refine bodyPost_ret (results_cell_row rfl _ _ (gx + 1) 38 (ndA x (.slice A1 nf c1) (.slice A2 np c2)) (0, 0) _ rfl BE.out Try.underlying38 rfl (by kernel_rfl)) rfl ⟨.slice A1 nf c1, .slice A2 np c2, rfl, ⟨⟨A1, c1, by rw [HNF.out], ?_⟩, ⟨A2, c2, by rw [HNP.out], ?_⟩⟩, fresh_own O1.out (by omega), fresh_own O2.out (by omega), FE.out⟩
    · rw [← HNF.out]; exact P1.out
    · rw [← HNP.out]; exact P2.out
end Go.Proofs.Ytddngibfhklnfaa
