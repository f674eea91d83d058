/- Texts merged into one, for the number of files a claim may have: FlA, FlB, DnP, DnA, DnB, FlC, FlD, GPass, PlK. -/
import Derived.Test.YthfibggbipkmfaaGreatDX6
import Derived.Test.YthfibggbipkmfaaGreatDX8
import Derived.Test.YthfibggbipkmfaaGreatDX12
import Derived.Test.YthfibggbipkmfaaGreatDX13
import Derived.Test.YthfibggbipkmfaaGreatDX16
import Derived.Test.YthfibggbipkmfaaGreatDX17
import Derived.Deep.AppendLies
import Derived.Deep.DeepCutAuto
import Derived.Deep.RegionHeld3
import Derived.Deep.RegionLaw
namespace Go.Proofs.YthfibggbipkmfaaGreat
open Go.RowKit Go.Fb
set_option linter.unusedVariables false
/-- What a flow's maps have of the first nodes. -/
structure FM (lo : Nat) (w : World) (gn gc gk : Nat) (L : List Nd) (M : List Ndm) (k : Nat) (TN TC TK : Int → Option Value) : Prop where
  n : IMap w gn TN
  c : IMap w gc TC
  q : IMap w gk TK
  ns : ∀ m ∈ M.take k, TN m.1.id = some (.agg (ndA m.1 m.2.1 m.2.2))
  cs : ∀ m ∈ M.take k, ∃ A q c, TC m.1.id = some (.slice A q c) ∧ q = (childN L m.1.id).length ∧ Reads w w.heap.size 1 A q ((childN L m.1.id).map (Value.int .i64)) ∧ Fresh lo (.slice A q c)
  ks : ∀ m ∈ M.take k, TK m.1.id = some (.int .i64 0)
  ki : ∀ x, TK x = none ∨ TK x = some (.int .i64 0)
  kn : ∀ x, TK x ≠ none → ∃ m ∈ M.take k, m.1.id = x
theorem FM.mv {lo : Nat} {w w' : World} {gn gc gk : Nat} {L : List Nd} {M : List Ndm} {k : Nat} {TN TC TK : Int → Option Value} (h : FM lo w gn gc gk L M k TN TC TK) (hf : Fr w.heap.size [] w w') : FM lo w' gn gc gk L M k TN TC TK :=
  ⟨h.n.fr hf h.n.lt (by simp), h.c.fr hf h.c.lt (by simp), h.q.fr hf h.q.lt (by simp), h.ns, fun m hm => by
    obtain ⟨A, q, c, h1, h2, h3, h4⟩ := h.cs m hm
    exact ⟨A, q, c, h1, h2, (h3.fr hf (Nat.le_refl _) (by simp)).more hf.size, h4⟩, h.ks, h.ki, h.kn⟩
theorem take_id_ne {M : List Ndm} (hn : (idsN (fstN M)).Nodup) {k : Nat} {x : Ndm} (hx : M[k]? = some x) : ∀ m ∈ M.take k, m.1.id ≠ x.1.id := by
  intro m hm e
  obtain ⟨j, hj⟩ := List.getElem?_of_mem hm
  rw [List.getElem?_take] at hj
  split at hj
  · rename_i hjk
    have h1 : (idsN (fstN M))[j]? = some m.1.id := by simp [idsN, fstN, hj]
    have h2 : (idsN (fstN M))[k]? = some x.1.id := by simp [idsN, fstN, hx]
    have hlt : j < (idsN (fstN M)).length := (List.getElem?_eq_some_iff.1 h1).1
    have := (List.getElem?_inj hlt hn).1 (h1.trans (by rw [h2, e]))
    omega
  · cases hj
theorem FM.next {lo : Nat} {wa w' : World} {gn gc gk : Nat} {L : List Nd} {M : List Ndm} {k : Nat} {TN TC TK : Int → Option Value} (h : FM lo wa gn gc gk L M k TN TC TK) {x : Nd} {sf sp : Value} (hx : M[k]? = some (x, sf, sp)) (hn : (idsN (fstN M)).Nodup)
    (hf : Fr wa.heap.size [gn, gc, gk] wa w') (h1 : gn < lo) (h2 : gc < lo) (h3 : gk < lo) {A : Option Addr} {q c : Nat} (i1 : IMap w' gn (updI TN x.id (.agg (ndA x sf sp)))) (i2 : IMap w' gc (updI TC x.id (.slice A q c))) (i3 : IMap w' gk (updI TK x.id (.int .i64 0)))
    (hq : q = (childN L x.id).length) (hrd : Reads w' w'.heap.size 1 A q ((childN L x.id).map (Value.int .i64))) (hfr : Fresh lo (.slice A q c)) : FM lo w' gn gc gk L M (k + 1) (updI TN x.id (.agg (ndA x sf sp))) (updI TC x.id (.slice A q c)) (updI TK x.id (.int .i64 0)) := by
  have hne := take_id_ne hn hx
  have ht : M.take (k + 1) = M.take k ++ [(x, sf, sp)] := by rw [List.take_add_one, hx]; rfl
  refine ⟨i1, i2, i3, fun m hm => ?_, fun m hm => ?_, fun m hm => ?_, fun y => ?_, fun y hy => ?_⟩
  · rw [ht, List.mem_append, List.mem_singleton] at hm
    rcases hm with hm | rfl
    · unfold updI
      rw [if_neg (hne m hm)]
      exact h.ns m hm
    · unfold updI
      rw [if_pos rfl]
  · rw [ht, List.mem_append, List.mem_singleton] at hm
    rcases hm with hm | rfl
    · obtain ⟨A', q', c', e1, e2, e3, e4⟩ := h.cs m hm
      refine ⟨A', q', c', ?_, e2, (e3.frL hf (Nat.le_refl _) (fun hn ad ha hm2 => ?_)).more hf.size, e4⟩
      · unfold updI
        rw [if_neg (hne m hm)]
        exact e1
      · have := e4 _ _ _ rfl hn ad ha
        simp at hm2
        omega
    · refine ⟨A, q, c, ?_, hq, hrd, hfr⟩
      unfold updI
      rw [if_pos rfl]
  · rw [ht, List.mem_append, List.mem_singleton] at hm
    rcases hm with hm | rfl
    · unfold updI
      rw [if_neg (hne m hm)]
      exact h.ks m hm
    · unfold updI
      rw [if_pos rfl]
  · unfold updI
    by_cases e : y = x.id
    · rw [if_pos e]; exact .inr rfl
    · rw [if_neg e]; exact h.ki y
  · rw [ht]
    unfold updI at hy
    by_cases e : y = x.id
    · exact ⟨(x, sf, sp), by simp, e.symm⟩
    · rw [if_neg e] at hy
      obtain ⟨m, hm, he⟩ := h.kn y hy
      exact ⟨m, List.mem_append_left _ hm, he⟩
/-- The maps of a flow. -/
structure FlA (lo : Nat) (w : World) (gf gn gc gk : Nat) (L : List Nd) (M : List Ndm) (TN TC TK : Int → Option Value) : Prop where
  fm : FM lo w gn gc gk L M M.length TN TC TK
  nm : fstN M = normL L
  inn : ∀ m ∈ M, NdIn w w.heap.size m ∧ Fresh lo m.2.1 ∧ Fresh lo m.2.2
  o1 : gn < gc
  o2 : gc < gk
  o3 : gk < gf
  o4 : gf < lo
  o5 : lo ≤ w.heap.size
def MadeOut (L : List Nd) (gt : Nat) (w : World) (e : Ending) (w' : World) : Prop :=
  ∃ lo gf gn gc gk M TN TC TK, e = .returned (.pointer (some ⟨gf, 0, none⟩)) ∧ Blk w' gf 86 #[.map (some gn), .map (some gc), .pointer (some ⟨gt, 0, none⟩), .slice none 0 0, .map (some gk)] ∧ FlA lo w' gf gn gc gk L M TN TC TK ∧ w.heap.size ≤ gn ∧ Fr w.heap.size [] w w'
set_option maxRecDepth 100000 in
set_option maxHeartbeats 8000000 in
theorem made_any (gt : Nat) (A : Option Addr) (c B n : Nat) (M : List Ndm) (w : World) (h : Nds w B A n M) (hB : B ≤ w.heap.size) (hs : Small M) (hr : RightG (fstN M)) :
    Calls Tryz.prog 58 #[.slice A n c, .pointer (some ⟨gt, 0, none⟩)] w (MadeOut (fstN M) gt w) := by
  obtain ⟨L, hL⟩ : ∃ L, L = fstN M := ⟨_, rfl⟩
  rw [← hL] at hr ⊢
  have HNM := Lib.hid (fun (wx : World) (hx : Fr w.heap.size [] w wx) => (by rw [hL]; exact norm_any A c B n M wx (h.frw hx hB (by simp)) (Nat.le_trans hB hx.size) hs (by have := hr.len; rw [hL] at this; simp [fstN] at this; rw [h.num]; omega) : Calls Tryz.prog 39 #[.slice A n c] wx (NormOut L wx)))
  have HCH := Lib.hid (fun (id : Int) (wx : World) (hx : Fr w.heap.size [] w wx) => children_any id A c B n M wx (h.frw hx hB (by simp)) (Nat.le_trans hB hx.size) hs)
  have HRG := Lib.hid hr
  have HL := Lib.hid hL
  have hmm := @run_makeMap Tryz.prog
  obtain ⟨gn, hgn⟩ : ∃ g, g = w.heap.size := ⟨_, rfl⟩
  obtain ⟨w0, hw0⟩ : ∃ x, x = (((w.alloc (.map #[] 0)).alloc (.map #[] 0)).alloc (.map #[] 0)).alloc (.cells #[.map (some w.heap.size), .map (some (w.heap.size + 1)), .pointer (some ⟨gt, 0, none⟩), .slice none 0 0, .map (some (w.heap.size + 1 + 1))] 86) := ⟨_, rfl⟩
  have I1 := (IMap.new w).fr (((((Fr.refl (gn + 1) [] (w.alloc (.map #[] 0))).alloc (by simp; omega) (.map #[] 0)).alloc (by simp; omega) (.map #[] 0)).alloc (by simp; omega) (.cells #[.map (some w.heap.size), .map (some (w.heap.size + 1)), .pointer (some ⟨gt, 0, none⟩), .slice none 0 0, .map (some (w.heap.size + 1 + 1))] 86))) (by omega) (by simp)
  have I2 := (IMap.new (w.alloc (.map #[] 0))).fr ((((Fr.refl (gn + 2) [] ((w.alloc (.map #[] 0)).alloc (.map #[] 0))).alloc (by simp; omega) (.map #[] 0)).alloc (by simp; omega) (.cells #[.map (some w.heap.size), .map (some (w.heap.size + 1)), .pointer (some ⟨gt, 0, none⟩), .slice none 0 0, .map (some (w.heap.size + 1 + 1))] 86))) (by simp; omega) (by simp)
  have I3 := (IMap.new ((w.alloc (.map #[] 0)).alloc (.map #[] 0))).fr (((Fr.refl (gn + 3) [] (((w.alloc (.map #[] 0)).alloc (.map #[] 0)).alloc (.map #[] 0))).alloc (by simp; omega) (.cells #[.map (some w.heap.size), .map (some (w.heap.size + 1)), .pointer (some ⟨gt, 0, none⟩), .slice none 0 0, .map (some (w.heap.size + 1 + 1))] 86))) (by simp; omega) (by simp)
  have B0 := Blk.new (((w.alloc (.map #[] 0)).alloc (.map #[] 0)).alloc (.map #[] 0)) 86 #[.map (some w.heap.size), .map (some (w.heap.size + 1)), .pointer (some ⟨gt, 0, none⟩), .slice none 0 0, .map (some (w.heap.size + 1 + 1))]
  have f0 : Fr w.heap.size [] w w0 := by rw [hw0]; exact ((((Fr.refl w.heap.size [] w).alloc (Nat.le_refl _) _).alloc (by simp) _).alloc (by simp; omega) _).alloc (by simp; omega) _
  have hs0 : w0.heap.size = gn + 4 := by rw [hw0, hgn]; simp
  rw [World.size_alloc] at I2 B0
  rw [World.size_alloc, World.size_alloc] at I3
  rw [World.size_alloc, World.size_alloc] at B0
  rw [← hw0] at I1 I2 I3 B0
  rw [← hgn] at I1 I2 I3 B0
  have J1 := Lib.hid I1
  have J2 := Lib.hid I2
  have J3 := Lib.hid I3
  have HB0 := Lib.hid B0
  have F0 := Lib.hid f0
  have HS0 := Lib.hid hs0
  have HW0 := Lib.hid hw0
  have HGN := Lib.hid hgn
  obtain ⟨gc, hgc⟩ : ∃ g, g = gn + 1 := ⟨_, rfl⟩
  obtain ⟨gk, hgk⟩ : ∃ g, g = gn + 1 + 1 := ⟨_, rfl⟩
  obtain ⟨gf, hgf⟩ : ∃ g, g = gn + 1 + 1 + 1 := ⟨_, rfl⟩
  have HGC := Lib.hid hgc
  have HGK := Lib.hid hgk
  have HGF := Lib.hid hgf
  have hgd : gn < gc ∧ gc < gk ∧ gk < gf := by omega
  have HGD := Lib.hid hgd
  clear hgd
  rw [← hgf, ← hgk, ← hgc] at HB0
  rw [← hgc] at J2
  rw [← hgk] at J3
  have HN0 := Lib.hid (HNM.out w0 f0)
  clear I1 I2 I3 B0 f0 hw0 hgn hgc hgk hgf HNM hs0
  go_enter Tryz.func58, Tryz.ntmps58
  go_wp2_with fail
  rw [← HW0.out]
  clear hmm
  refine HN0.out.mono ?_
  rintro e w1 ⟨An, cn, nn, MN, hnn, rfl, hown, hnmi, hfst, f1⟩
  rw [← HGN.out, ← HGF.out]
  have HMN := Lib.hid (Nmd.mk hnn hown hnmi)
  have HF := Lib.hid hfst
  have HND2 := Lib.hid (show (idsN (normL L)).Nodup from ((normL_perm L).map (fun n : Nd => n.id)).nodup_iff.2 HRG.out.uni)
  have hnm : nn = MN.length := hnn
  have HNN := Lib.hid hnm
  have hnn8 : nn ≤ 8 := by
    have h1 := congrArg List.length hfst
    rw [normL_len] at h1
    simp only [fstN, List.length_map] at h1
    rw [hnm, h1]
    exact HRG.out.len
  have F1 := Lib.hid (F0.out.trans (f1.mono (B' := w.heap.size) (L' := []) F0.out.size (by simp)))
  have F01 := Lib.hid f1
  have HM1 := Lib.hid (FM.mk (lo := w0.heap.size) (L := L) (M := MN) (k := 0) (J1.out.fr f1 J1.out.lt (by simp)) (J2.out.fr f1 J2.out.lt (by simp)) (J3.out.fr f1 J3.out.lt (by simp)) (by simp) (by simp) (by simp) (fun _ => .inl rfl) (fun _ h => absurd rfl h))
  have HB1 := Lib.hid (HB0.out.fr f1 HB0.out.lt (by simp))
  have hlf : gf < w0.heap.size := HB0.out.lt
  have hln : gn < w0.heap.size := J1.out.lt
  have hlc : gc < w0.heap.size := J2.out.lt
  have hlk : gk < w0.heap.size := J3.out.lt
  have hs01 : w0.heap.size ≤ w1.heap.size := f1.size
  clear hnn hown hnmi hfst f1 HN0 J1 J2 J3 HB0 hnm F0
  go_wp2_with fail
  go_loopg [7, 17] nn (fun g s7 s17 wr => ∃ (k : Nat) (TN TC TK : Int → Option Value), k ≤ nn ∧ g = nn - k ∧ s17 = .int .i64 k ∧ (s7 = undef ∨ ∃ a, s7 = .pointer a) ∧ RowKit.Hid (FM w0.heap.size wr gn gc gk L MN k TN TC TK) ∧ RowKit.Hid (Fr w1.heap.size [gn, gc, gk] w1 wr))
  case atStart => exact ⟨0, _, _, _, Nat.zero_le _, rfl, rfl, .inl rfl, HM1, Lib.hid (Fr.refl _ _ _)⟩
  case round =>
    clear HM1
    obtain ⟨k, TN, TC, TK, hk, rfl, rfl, h7, HM, FR⟩ := hrel
    by_cases hkn : k < nn
    · have hki : (k : Int) < (nn : Int) := by omega
      have hk0 : (0 : Int) ≤ (k : Int) := by omega
      obtain ⟨m, hx⟩ : ∃ m, MN[k]? = some m := ⟨_, List.getElem?_eq_getElem (by rw [← HNN.out]; exact hkn)⟩
      have HSW := HMN.out.frd (FR.out.mono (B' := w1.heap.size) (L' := [gn, gc, gk]) (Nat.le_refl _) (by simp)) (by simp; omega)
      have HND := HSW.nds (L := []) (Fr.refl _ _ _) (by simp)
      obtain ⟨b1, o1, hA1, hb1, hc1⟩ := HND.get hx
      have hmI := HSW.inn m (List.mem_of_getElem? hx)
      have HXK := Lib.hid hx
      obtain ⟨x, sf, sp⟩ := m
      obtain ⟨⟨⟨Af, cf, hf1, _⟩, ⟨Ap, cp, hp1, _⟩⟩, _⟩ := hmI
      simp only at hf1 hp1
      subst hf1
      subst hp1
      obtain ⟨nf, hnf⟩ : ∃ z, z = x.fr.length := ⟨_, rfl⟩
      obtain ⟨np, hnp⟩ : ∃ z, z = x.pg.length := ⟨_, rfl⟩
      rw [← hnf, ← hnp] at hc1 HXK
      subst hA1
      have p0 := hc1 0 (.int .i64 x.id) rfl
      have p1 := hc1 1 (.int .i64 x.kind) rfl
      have p2 := hc1 2 (.slice Af nf cf) rfl
      have p3 := hc1 3 (.slice Ap np cp) rfl
      have p4 := hc1 4 (.int .i64 x.par) rfl
      have p5 := hc1 5 (.int .i64 (x.rt 0)) rfl
      have p6 := hc1 6 (.int .i64 (x.rt 1)) rfl
      have p7 := hc1 7 (.int .i64 (x.rt 2)) rfl
      have p8 := hc1 8 (.int .i64 (x.rt 3)) rfl
      have p9 := hc1 9 (.int .i64 (x.rt 4)) rfl
      have p10 := hc1 10 (.int .i64 (x.rt 5)) rfl
      have p11 := hc1 11 (.int .i64 (x.rt 6)) rfl
      have p12 := hc1 12 (.int .i64 (x.rt 7)) rfl
      simp only [Nat.add_zero] at p0
      clear hc1 hx HSW hnf hnp hb1 HND
      have BX := Lib.hid (Blk.new wr 49 (ndA x (.slice Af nf cf) (.slice Ap np cp)))
      have fa := (Fr.refl wr.heap.size [] wr).alloc (Nat.le_refl _) (.cells (ndA x (.slice Af nf cf) (.slice Ap np cp)) 49)
      have hwr : w1.heap.size ≤ wr.heap.size := FR.out.size
      have FA := Lib.hid (FR.out.trans (fa.mono (B' := w1.heap.size) (L' := [gn, gc, gk]) FR.out.size (by simp)))
      have HMA := Lib.hid (HM.out.mv fa)
      clear fa HM FR
      go_upto_region 5 with fail
      clear p0 p1 p2 p3 p4 p5 p6 p7 p8 p9 p10 p11 p12
      generalize wr.alloc (.cells (ndA x (.slice Af nf cf) (.slice Ap np cp)) 49) = wa at *
      obtain ⟨gx, hgx⟩ : ∃ g, g = wr.heap.size := ⟨_, rfl⟩
      rw [← hgx] at BX
      rw [← hgx]
      have hgx1 : w1.heap.size ≤ gx := by omega
      clear hgx hwr
      have BF := Lib.hid (HB1.out.fr FA.out (by omega) (by have := HGD.out; simp; omega))
      obtain ⟨w3, hst, hm3, f3, hs3⟩ := (HMA.out.q.fr (Fr.refl wa.heap.size [] wa).drew HMA.out.q.lt (by simp) : IMap wa.drew gk TK).upd Tryz.underlying34 x.id (.int .i64 0)
      have q4 : wa.cell? ⟨gf, 4, none⟩ = some (.map (some gk)) := BF.out.cell 4
      have q4d : wa.drew.cell? ⟨gf, 4, none⟩ = some (.map (some gk)) := q4
      have x0 : wa.cell? ⟨gx, 0, none⟩ = some (.int .i64 x.id) := BX.out.cell 0
      have x0d : wa.drew.cell? ⟨gx, 0, none⟩ = some (.int .i64 x.id) := x0
      have F3 := Lib.hid (((Fr.refl wa.heap.size [gk] wa).drew).trans f3)
      have HM3 := Lib.hid hm3
      clear hm3 f3
      go_cut [24] (fun s24 wx => wx = w3)
      case first =>
        go_region_with fail
        all_goals
          go_wp2_with fail
          go_meet
          exact rfl
      case rest =>
        subst hcut
        have HGDo := HGD.out
        have BF3 := Lib.hid (BF.out.fr F3.out BF.out.lt (by simp; omega))
        have BX3 := Lib.hid (BX.out.fr F3.out BX.out.lt (by simp; omega))
        have FW3 := Lib.hid (F1.out.trans ((FA.out.trans (F3.out.mono (B' := w1.heap.size) (L' := [gn, gc, gk]) FA.out.size (by simp))).mono (B' := w.heap.size) (L' := []) F1.out.size (by have := HGN.out; simp; omega)))
        have IN3 := Lib.hid (HMA.out.n.fr F3.out HMA.out.n.lt (by simp; omega))
        have IC3 := Lib.hid (HMA.out.c.fr F3.out HMA.out.c.lt (by simp; omega))
        clear q4 q4d x0 x0d hst hs3 BF BX
        have hzN : ∀ u, (zeroValue 49).run Tryz.prog u = .ok (.agg ndZ) u := fun u => by kernel_rfl
        have hzC : ∀ u, (zeroValue 45).run Tryz.prog u = .ok (.slice none 0 0) u := fun u => by kernel_rfl
        have HZN := Lib.hid hzN
        have HZC := Lib.hid hzC
        clear hzN hzC
        go_upto_region 6 with fail
        have INV := Lib.hid ((Fr.refl wc.heap.size [gn, gc] wc).drew)
        have FD := Lib.hid ((Fr.refl wc.heap.size [] wc).drew)
        have SF := Lib.hid (fun (W : World) (hf : Fr wc.heap.size [gn, gc] wc W) => (by
          have b := BX3.out.fr hf BX3.out.lt (by simp; omega)
          have d := BF3.out.fr hf BF3.out.lt (by simp; omega)
          exact ⟨d.cell 0, d.cell 1, b.cell 0, b.cell 1, b.cell 2, b.cell 3, b.cell 4, b.cell 5, b.cell 6, b.cell 7, b.cell 8, b.cell 9, b.cell 10, b.cell 11, b.cell 12⟩ : W.cell? ⟨gf, 0, none⟩ = some (.map (some gn)) ∧ W.cell? ⟨gf, 1, none⟩ = some (.map (some gc)) ∧ W.cell? ⟨gx, 0, none⟩ = some (.int .i64 x.id) ∧ W.cell? ⟨gx, 1, none⟩ = some (.int .i64 x.kind) ∧ W.cell? ⟨gx, 2, none⟩ = some (.slice Af nf cf) ∧ W.cell? ⟨gx, 3, none⟩ = some (.slice Ap np cp) ∧ W.cell? ⟨gx, 4, none⟩ = some (.int .i64 x.par) ∧ W.cell? ⟨gx, 5, none⟩ = some (.int .i64 (x.rt 0)) ∧ W.cell? ⟨gx, 6, none⟩ = some (.int .i64 (x.rt 1)) ∧ W.cell? ⟨gx, 7, none⟩ = some (.int .i64 (x.rt 2)) ∧ W.cell? ⟨gx, 8, none⟩ = some (.int .i64 (x.rt 3)) ∧ W.cell? ⟨gx, 9, none⟩ = some (.int .i64 (x.rt 4)) ∧ W.cell? ⟨gx, 10, none⟩ = some (.int .i64 (x.rt 5)) ∧ W.cell? ⟨gx, 11, none⟩ = some (.int .i64 (x.rt 6)) ∧ W.cell? ⟨gx, 12, none⟩ = some (.int .i64 (x.rt 7))))
        go_region_held3 (fun W => W.cell? ⟨gf, 0, none⟩ = some (.map (some gn)) ∧ W.cell? ⟨gf, 1, none⟩ = some (.map (some gc)) ∧ W.cell? ⟨gx, 0, none⟩ = some (.int .i64 x.id) ∧ W.cell? ⟨gx, 1, none⟩ = some (.int .i64 x.kind) ∧ W.cell? ⟨gx, 2, none⟩ = some (.slice Af nf cf) ∧ W.cell? ⟨gx, 3, none⟩ = some (.slice Ap np cp) ∧ W.cell? ⟨gx, 4, none⟩ = some (.int .i64 x.par) ∧ W.cell? ⟨gx, 5, none⟩ = some (.int .i64 (x.rt 0)) ∧ W.cell? ⟨gx, 6, none⟩ = some (.int .i64 (x.rt 1)) ∧ W.cell? ⟨gx, 7, none⟩ = some (.int .i64 (x.rt 2)) ∧ W.cell? ⟨gx, 8, none⟩ = some (.int .i64 (x.rt 3)) ∧ W.cell? ⟨gx, 9, none⟩ = some (.int .i64 (x.rt 4)) ∧ W.cell? ⟨gx, 10, none⟩ = some (.int .i64 (x.rt 5)) ∧ W.cell? ⟨gx, 11, none⟩ = some (.int .i64 (x.rt 6)) ∧ W.cell? ⟨gx, 12, none⟩ = some (.int .i64 (x.rt 7))) (first | exact SF.out _ INV.out | exact SF.out _ K5.out | exact SF.out _ K6.out | exact SF.out _ K7.out | exact SF.out _ K8.out)
          ((first | (go_at_call 92; refine (HCH.out _ _ (FW3.out.trans (INV.out.mono (B' := w.heap.size) (L' := []) FW3.out.size (by have := HGN.out; simp; omega)))).mono ?_; rintro e wv ⟨Av, cv, nv, hnv, rfl, hov, fv⟩; have INV := Lib.hid (INV.out.trans (fv.mono (B' := _) (L' := [gn, gc]) INV.out.size (by simp))); have HOV := Lib.hid hov; have HNV := Lib.hid hnv; have FV := Lib.hid fv; have FDV := FD.out.trans (fv.mono (B' := wc.heap.size) (L' := []) FD.out.size (by simp)); obtain ⟨st, w5, hme, f5, hs5, hest⟩ := (IN3.out.fr FDV IN3.out.lt (by simp) : IMap wv gn TN).entry Tryz.underlying83 HZN.out x.id; obtain ⟨w6, hes, im6, f6, hs6⟩ := hest w5 (.agg (ndA x (.slice Af nf cf) (.slice Ap np cp))) rfl; have F56 := f5.trans (f6.mono (B' := wv.heap.size) (L' := [gn]) (by omega) (by simp)); have F6 := (FDV.mono (B' := wc.heap.size) (L' := [gn]) (Nat.le_refl _) (by simp)).trans (F56.mono (B' := wc.heap.size) (L' := [gn]) FDV.size (by simp)); obtain ⟨st2, w7, hme2, f7, hs7, hest2⟩ := (IC3.out.fr (F6.mono (B' := wc.heap.size) (L' := [gn]) (Nat.le_refl _) (by simp)) IC3.out.lt (by simp; omega) : IMap w6 gc TC).entry Tryz.underlying84 HZC.out x.id; obtain ⟨w8, hes2, im8, f8, hs8⟩ := hest2 w7 (.slice Av nv cv) rfl; have K5 := Lib.hid (INV.out.trans (f5.mono (B' := wc.heap.size) (L' := [gn, gc]) INV.out.size (by simp))); have K6 := Lib.hid (K5.out.trans (f6.mono (B' := wc.heap.size) (L' := [gn, gc]) (by have := INV.out.size; omega) (by simp))); have K7 := Lib.hid (K6.out.trans (f7.mono (B' := wc.heap.size) (L' := [gn, gc]) K6.out.size (by simp))); have K8 := Lib.hid (K7.out.trans (f8.mono (B' := wc.heap.size) (L' := [gn, gc]) K7.out.size (by simp))); have F68 := f7.trans (f8.mono (B' := w6.heap.size) (L' := [gc]) (by omega) (by simp)); have HI6 := Lib.hid (im6.fr F68 im6.lt (by simp; omega)); have HI8 := Lib.hid im8; have HFV8 := Lib.hid ((F56.mono (B' := wv.heap.size) (L' := [gn, gc]) (Nat.le_refl _) (by simp)).trans (F68.mono (B' := wv.heap.size) (L' := [gn, gc]) (by omega) (by simp))); clear fv hov hnv f5 f6 f7 f8 im6 im8 hs5 hs6 hs7 hs8 hest hest2 F56 F6 F68 FDV)))
        all_goals
          go_wp2_with fail
          have K8o := K8.out
          have FA8 := Lib.hid ((F3.out.mono (B' := wa.heap.size) (L' := [gn, gc, gk]) (Nat.le_refl _) (by simp)).trans (K8o.mono (B' := wa.heap.size) (L' := [gn, gc, gk]) F3.out.size (by simp)))
          have HMX := Lib.hid (HMA.out.next HXK.out (by rw [HF.out]; exact HND2.out) FA8.out hln hlc hlk HI6.out HI8.out (HM3.out.fr K8o HM3.out.lt (by simp; omega)) (by rw [HNV.out, HL.out]; rfl) ((by
            have h1 := Reads.of_own HOV.out
            have h2 := (h1.frL HFV8.out (Nat.le_refl _) (fun hn ad ha hm2 => by
              obtain ⟨g, cap, hv, hbg, hlt⟩ := HOV.out.form hn
              injection hv with e1 _ _
              rw [ha] at e1
              injection e1 with e1
              subst e1
              have h5 := F3.out.size
              have h6 := FA.out.size
              have h7 : w.drew.heap.size = w.heap.size := rfl
              simp at hm2
              have h8 : wc.heap.size ≤ g := hbg
              omega)).more HFV8.out.size
            rw [show M.map (fun x => x.1) = L from HL.out.symm] at h2
            exact h2)) (fresh_own HOV.out (by have h5 := F3.out.size; have h6 := FA.out.size; show w0.heap.size ≤ wc.heap.size; omega)))
          have FN := Lib.hid (FA.out.trans (FA8.out.mono (B' := w1.heap.size) (L' := [gn, gc, gk]) FA.out.size (by simp)))
          clear hme hes hme2 hes2
          go_roundg (nn - (k + 1))
          case measure => omega
          case rel => exact ⟨k + 1, _, _, _, by omega, rfl, by go_num, .inr ⟨_, rfl⟩, HMX, FN⟩
    · obtain rfl : nn = k := by omega
      have HGDo := HGD.out
      have HGNo := HGN.out
      have BF := Lib.hid (HB1.out.fr FR.out HB1.out.lt (by simp; omega))
      have FW := Lib.hid (F1.out.trans (FR.out.mono (B' := w.heap.size) (L' := []) F1.out.size (by intro q hq; simp at hq; omega)))
      have HME := HMN.out.frd FR.out (by intro q hq; simp at hq; omega)
      have HFA := Lib.hid (FlA.mk (gf := gf) (by rw [← HNN.out]; exact HM.out) HF.out (fun m hm => ⟨(HME.inn m hm).inn, (HME.inn m hm).f1, (HME.inn m hm).f2⟩) HGDo.1 HGDo.2.1 HGDo.2.2 hlf (Nat.le_trans hs01 FR.out.size))
      clear HME
      go_wp2_with fail
      go_ret
      exact ⟨_, gf, gn, gc, gk, MN, TN, TC, TK, rfl, BF.out, HFA.out, by omega, FW.out⟩
end Go.Proofs.YthfibggbipkmfaaGreat
namespace Go.Proofs.YthfibggbipkmfaaGreat
open Go.RowKit Go.Fb
set_option linter.unusedVariables false
def cntT (C : Int → Option Int) : Int → Option Value := fun x => (C x).map (Value.int .i64)
def cntU (C : Int → Option Int) (x : Int) : Int → Option Int := fun q => if q = x then some (wrap64 ((C x).getD 0 + 1)) else C q
theorem cntU_T (C : Int → Option Int) (x : Int) : updI (cntT C) x (.int .i64 (wrap64 ((C x).getD 0 + 1))) = cntT (cntU C x) := by
  funext q
  unfold updI cntT cntU
  by_cases e : q = x
  · rw [if_pos e, if_pos e]; rfl
  · rw [if_neg e, if_neg e]
theorem cntT_get (C : Int → Option Int) (x : Int) : (cntT C x).getD (.int .i64 0) = .int .i64 ((C x).getD 0) := by
  unfold cntT
  cases C x <;> rfl
/-- A line. -/
def lnF (sink frm k re im : Int) : Nat → Int := fun j => if j = 0 then sink else if j = 1 then frm else if j = 2 then k else if j = 3 then re else im
/-- A flow that goes: its block, its counts, its lines. -/
structure FlD (b0 : Nat) (w : World) (gf gn gc gk gt : Nat) (C : Int → Option Int) (out : List (Nat → Int)) (A : Option Addr) (n c : Nat) : Prop where
  num : n = out.length
  blk : Blk w gf 86 #[.map (some gn), .map (some gc), .pointer (some ⟨gt, 0, none⟩), .slice A n c, .map (some gk)]
  cnt : IMap w gk (cntT C)
  row : w.ownsRow b0 44 5 (.slice A n c) n (cellsLn out)
theorem FlD.mv {b0 : Nat} {w w' : World} {gf gn gc gk gt : Nat} {C : Int → Option Int} {out : List (Nat → Int)} {A : Option Addr} {n c : Nat} (h : FlD b0 w gf gn gc gk gt C out A n c) (hf : Fr w.heap.size [] w w') : FlD b0 w' gf gn gc gk gt C out A n c :=
  ⟨h.num, h.blk.fr hf h.blk.lt (by simp), h.cnt.fr hf h.cnt.lt (by simp), ownsRow_fr h.row hf (fun q hq => ⟨(h.row.lt q hq).2, by simp⟩)⟩
set_option maxRecDepth 100000 in
set_option maxHeartbeats 8000000 in
theorem come_sink (b0 gf gn gc gk gt : Nat) (TN : Int → Option Value) (C : Int → Option Int) (out : List (Nat → Int)) (A : Option Addr) (n c : Nat) (frm id : Int) (x : Nd) (sf sp : Value) (k re im : Int) (w : World)
    (hD : FlD b0 w gf gn gc gk gt C out A n c) (hN : IMap w gn TN) (hx : TN id = some (.agg (ndA x sf sp))) (hsl : SlN (x, sf, sp)) (hk : x.kind = 2) (hb : gn < gk ∧ gk < gf ∧ gf < b0 ∧ b0 ≤ w.heap.size) (hlen : n ≤ 6000000000) :
    Calls Tryz.prog 93 #[.pointer (some ⟨gf, 0, none⟩), .int .i64 frm, .int .i64 id, .agg #[.int .i64 k, .int .i64 re, .int .i64 im]] w fun e w' => e = .returned (.tuple #[]) ∧ (∃ A' c', FlD b0 w' gf gn gc gk gt (cntU C id) (out ++ [lnF id frm k re im]) A' (n + 1) c' ∧ ∀ q, (Value.slice A' (n + 1) c').ownBlock = some q → (Value.slice A n c).ownBlock = some q ∨ w.heap.size ≤ q) ∧ Fr w.heap.size (gf :: gk :: (Value.slice A n c).ownBlock.toList) w w' := by
  obtain ⟨Af, nf, cf, Ap, np, cp, h1, h2⟩ := hsl
  simp only at h1 h2
  subst h1
  subst h2
  obtain ⟨hb1, hb2, hb3, hb4⟩ := hb
  have HD := Lib.hid hD
  have HNI := Lib.hid hN
  have HX := Lib.hid hx
  have HK := Lib.hid hk
  have hzN : ∀ u, (zeroValue 49).run Tryz.prog u = .ok (.agg ndZ) u := fun u => by kernel_rfl
  have hzI : ∀ u, (zeroValue 3).run Tryz.prog u = .ok (.int .i64 0) u := fun u => by kernel_rfl
  have HZN := Lib.hid hzN
  have HZI := Lib.hid hzI
  clear hD hN hx hk hzN hzI
  have fa := (Fr.refl w.heap.size [] w).alloc (Nat.le_refl _) (.cells #[.int .i64 k, .int .i64 re, .int .i64 im] 56)
  have BR := Lib.hid (Blk.new w 56 #[.int .i64 k, .int .i64 re, .int .i64 im])
  have D1 := Lib.hid (HD.out.mv fa)
  have N1 := Lib.hid (HNI.out.fr fa HNI.out.lt (by simp))
  obtain ⟨LL, hLL⟩ : ∃ LL, LL = gf :: gk :: (Value.slice A n c).ownBlock.toList := ⟨_, rfl⟩
  have hLf : gf ∈ LL := by rw [hLL]; simp
  have hLk : gk ∈ LL := by rw [hLL]; simp
  have hLo : ∀ q, (Value.slice A n c).ownBlock = some q → q ∈ LL := fun q hq => by rw [hLL, hq]; simp
  rw [← hLL]
  have HLf := Lib.hid hLf
  have HLk := Lib.hid hLk
  have HLo := Lib.hid hLo
  have F1 := Lib.hid (fa.mono (B' := w.heap.size) (L' := LL) (Nat.le_refl _) (by simp))
  clear hLL hLf hLk hLo
  have hsz1 : w.heap.size ≤ (w.alloc (.cells #[.int .i64 k, .int .i64 re, .int .i64 im] 56)).heap.size := fa.size
  clear fa HD HNI
  go_enter Tryz.func93, Tryz.ntmps93
  go_upto_region 1 with fail
  generalize w.alloc (.cells #[.int .i64 k, .int .i64 re, .int .i64 im] 56) = w1 at *
  obtain ⟨gr, hgre⟩ : ∃ g, g = w.heap.size := ⟨_, rfl⟩
  rw [← hgre] at BR F1 hb4 hsz1 ⊢
  have HGR := Lib.hid hgre
  clear hgre
  have q0 : w1.cell? ⟨gf, 0, none⟩ = some (.map (some gn)) := D1.out.blk.cell 0
  have hlk := N1.out.look Tryz.underlying83 HZN.out id
  rw [HX.out] at hlk
  simp only [Option.getD_some] at hlk
  have hg1 : gr < w1.heap.size := BR.out.lt
  have fb := (Fr.refl w1.heap.size [] w1).alloc (Nat.le_refl _) (.cells (ndA x (.slice Af nf cf) (.slice Ap np cp)) 49)
  have BN := Lib.hid (Blk.new w1 49 (ndA x (.slice Af nf cf) (.slice Ap np cp)))
  have D2 := Lib.hid (D1.out.mv fb)
  have BR2 := Lib.hid (BR.out.fr fb BR.out.lt (by simp))
  have F2 := Lib.hid (F1.out.trans (fb.mono (B' := gr) (L' := LL) hsz1 (by simp)))
  go_upto_region 2 with fail
  clear fb q0 hlk D1 BR F1
  generalize w1.alloc (.cells (ndA x (.slice Af nf cf) (.slice Ap np cp)) 49) = w2 at *
  obtain ⟨gx, hgx⟩ : ∃ g, g = w1.heap.size := ⟨_, rfl⟩
  rw [← hgx] at BN ⊢
  have hgx0 : b0 ≤ gx := by omega
  clear hgx
  have q4 : w2.cell? ⟨gf, 4, none⟩ = some (.map (some gk)) := D2.out.blk.cell 4
  have hlc := D2.out.cnt.look Tryz.underlying34 HZI.out id
  rw [cntT_get] at hlc
  obtain ⟨v, hv⟩ : ∃ v, v = (C id).getD 0 := ⟨_, rfl⟩
  rw [← hv] at hlc
  obtain ⟨w3, hup, hm3, f3, hs3⟩ := D2.out.cnt.upd Tryz.underlying34 id (.int .i64 (wrap64 (v + 1)))
  rw [hv, cntU_T] at hm3
  have hkf : gf ≠ gk := by omega
  have BN3 := Lib.hid (BN.out.fr f3 BN.out.lt (by simp; omega))
  have BR3 := Lib.hid (BR2.out.fr f3 BR2.out.lt (by simp; omega))
  have D3 := Lib.hid (show FlD b0 w3 gf gn gc gk gt (cntU C id) out A n c from ⟨D2.out.num, D2.out.blk.fr f3 D2.out.blk.lt (by simpa using hkf), hm3, ownsRow_fr D2.out.row f3 (fun q hq => ⟨(D2.out.row.lt q hq).2, by have := (D2.out.row.lt q hq).1; simp; omega⟩)⟩)
  have F3 := Lib.hid (F2.out.trans (f3.mono (B' := gr) (L' := LL) (Nat.le_of_lt BR2.out.lt) (by intro q hq _; simp at hq; subst hq; exact HLk.out)))
  have hb23 : b0 ≤ w3.heap.size := by rw [hs3]; have := BN.out.lt; omega
  have hgr3 : gr < w3.heap.size := BR3.out.lt
  clear hm3 f3 hs3 hv D2 BR2 F2 BN
  have x1 : w3.cell? ⟨gx, 1, none⟩ = some (.int .i64 x.kind) := BN3.out.cell 1
  rw [HK.out] at x1
  go_upto_region 4 with fail
  clear q4 hlc hup x1
  have ho := D3.out.row
  have hcr := D3.out.blk.cell 3
  have hfz := D3.out.blk.frozen 3
  have hoff : (Value.slice A n c).ownBlock ≠ some gf := fun hq => by have := (ho.lt gf hq).1; omega
  have r0 := BR3.out.cell 0
  have r1 := BR3.out.cell 1
  have r2 := BR3.out.cell 2
  simp at r0 r1 r2 hcr
  have hcrA : (w3.alloc (.cells #[.int .i64 id, .int .i64 frm, .int .i64 k, .int .i64 re, .int .i64 im] 44)).cell? ⟨gf, 3, none⟩ = some (.slice A n c) := (D3.out.blk.alloc _).cell 3
  obtain ⟨i0, hi0, hz0, hz1, hz2⟩ := info_parts (show (Tryz.prog.info? 44).map (fun i => (i.zero, i.size, i.bytes)) = some (some (.agg #[.int .i64 0, .int .i64 0, .int .i64 0, .int .i64 0, .int .i64 0]), 5, 40) by kernel_rfl)
  go_wp2_with fail
  go_region_law
    ((refine step_append_lies _ (by rfl) _ _ _ (by rfl) b0 44 i0 _ 5 40 Tryz.underlying37 hi0 hz0 hz1 hz2 rfl (by omega) (.slice A n c) n _ (by rfl) ((ho.alloc _).drew)
        ⟨w3.heap.size, 0, none⟩ 1 1 (lnC (lnF id frm k re im)) (by rfl) (by rfl) (World.news_of_block (cs := (lnC (lnF id frm k re im)).toArray) (t := 44) (fr := (0, 0)) (heap_alloc_new w3 _)) (by simp [lnC, Value.oneCell'])
        (by omega) (by unfold maxLen; omega) (by omega) (by simp; omega) (w3.heap.size + 1) (by simp) ?_; intro gg cap w6 hown1 hgrow hat hlt6; have hfz6 : w6.frozen? ⟨gf, 3, none⟩ = false := (hgrow.frozen_far ⟨gf, 3, none⟩ (by simp; omega) (Ne.symm hoff)).trans ((D3.out.blk.alloc _).frozen 3); have hcr6 : w6.cell? ⟨gf, 3, none⟩ = some (.slice A n c) := (hgrow.cell_far ⟨gf, 3, none⟩ (by simp; omega) (Ne.symm hoff)).trans (((D3.out.blk.alloc _).cell 3))))
  all_goals
    go_wp2_with fail
    have hba := (D3.out.blk.alloc (.cells #[.int .i64 id, .int .i64 frm, .int .i64 k, .int .i64 re, .int .i64 im] 44)).drew
    have hca := D3.out.cnt.fr (((Fr.refl w3.heap.size [] w3).alloc (Nat.le_refl _) (.cells #[.int .i64 id, .int .i64 frm, .int .i64 k, .int .i64 re, .int .i64 im] 44)).drew) D3.out.cnt.lt (by simp)
    have hgkr : some gk ≠ (Value.slice A n c).ownBlock := fun e => by have := (ho.lt gk e.symm).1; omega
    have hb6 : Blk w6 gf 86 #[.map (some gn), .map (some gc), .pointer (some ⟨gt, 0, none⟩), .slice A n c, .map (some gk)] := (hgrow.block gf hba.lt (Ne.symm hoff)).trans hba
    have hc6 : IMap w6 gk (cntT (cntU C id)) := by
      obtain ⟨K, es, clock, h1, h2⟩ := hca
      exact ⟨K, es, clock, (hgrow.block gk (IMap.lt ⟨K, es, clock, h1, h2⟩) hgkr).trans h1, h2⟩
    have hgg : b0 ≤ gg := (hown1.lt gg rfl).1
    refine bodyPost_ret (results_none rfl _ _ _) rfl ⟨rfl, ⟨some ⟨gg, 0, none⟩, cap, ⟨?_, ?_, ?_, ?_⟩, fun q hq => ?_⟩, ?_⟩
    · rw [List.length_append, ← D3.out.num]; rfl
    · have := hb6.set_ 3 (.slice (some ⟨gg, 0, none⟩) (n + 1) cap)
      simpa using this
    · exact hc6.fr ((Fr.refl w6.heap.size [gf] w6).setCell (p := ⟨gf, 3, none⟩) (.inr (by simp)) _) hc6.lt (by simp; omega)
    · have h5 : (w6.setCell ⟨gf, 3, none⟩ (.slice (some ⟨gg, 0, none⟩) (n + 1) cap)).ownsRow b0 44 5 (.slice (some ⟨gg, 0, none⟩) (n + 1) cap) (n + 1) (cellsLn out ++ lnC (lnF id frm k re im)) := ownsRow_setCell_other hown1 (by show (some gg : Option Nat) ≠ some gf; simp; omega) _
      rw [cellsLn_app]
      simpa [cellsLn] using h5
    · have hq2 : gg = q := by simpa [Value.ownBlock] using hq
      subst hq2
      rcases hat with hat | hat
      · exact .inl hat
      · exact .inr (by rw [← HGR.out]; omega)
    · rw [← HGR.out]
      exact (((F3.out.alloc (by omega) _).drew).grown hgrow (by simp; omega) (fun q hq => .inr (HLo.out q hq))).setCell (p := ⟨gf, 3, none⟩) (.inr HLf.out) _
end Go.Proofs.YthfibggbipkmfaaGreat
namespace Go.Proofs.YthfibggbipkmfaaGreat
open Go.RowKit Go.Fb
set_option linter.unusedVariables false
/-- A job that goes: its table, its lines, its counts. -/
structure DS where
  T : Pk → CV
  out : List (Nat → Int)
  C : Int → Option Int
/-- What a program puts out of a value for a place. -/
def emitsD (x : Nd) (T : Pk → CV) (id key : Int) (v : Int × Int) : List (Int × Int) := outP_ x.pg v (ccT (T (id, key)))
def keepD (x : Nd) (T : Pk → CV) (id key : Int) (v : Int × Int) : Pk → CV := updT T (id, key) (cvT (celP x.pg v (ccT (T (id, key)))))
/-- A record comes to a node. -/
def comeD (L : List Nd) (put : Int → Int → Int × Int → DS → DS) (frm id key : Int) (v : Int × Int) (S : DS) : DS :=
  match findN L id with
  | none => S
  | some x =>
    if x.kind = 2 then ⟨S.T, S.out ++ [lnF id frm key v.1 v.2], cntU S.C id⟩
    else (emitsD x S.T id key v).foldl (fun s u => put id key u s) ⟨keepD x S.T id key v, S.out, cntU S.C id⟩
/-- A node puts out a record. -/
def putD (L : List Nd) : Nat → Int → Int → Int × Int → DS → DS
  | 0, _, _, _, S => S
  | d + 1, id, key, v, S => (childN L id).foldl (fun s c => comeD L (putD L d) id c key v s) S
theorem foldl_ind {α β : Type} (P : β → Prop) (f : β → α → β) : ∀ (l : List α) (b : β), P b → (∀ b a, a ∈ l → P b → P (f b a)) → P (l.foldl f b)
  | [], b, h, _ => h
  | a :: l, b, h, hf => foldl_ind P f l (f b a) (hf b a (by simp) h) (fun b c hc hb => hf b c (by simp [hc]) hb)
/-- The lines that were there stay ahead. -/
def Ahead (a b : DS) : Prop := ∃ t, b.out = a.out ++ t
theorem Ahead.refl (a : DS) : Ahead a a := ⟨[], by simp⟩
theorem Ahead.trans {a b c : DS} (h : Ahead a b) (k : Ahead b c) : Ahead a c := by
  obtain ⟨t, e⟩ := h
  obtain ⟨u, e2⟩ := k
  exact ⟨t ++ u, by rw [e2, e, List.append_assoc]⟩
theorem Ahead.len {a b : DS} (h : Ahead a b) : a.out.length ≤ b.out.length := by
  obtain ⟨t, e⟩ := h
  rw [e, List.length_append]; omega
theorem foldl_ahead {α : Type} (f : DS → α → DS) (hf : ∀ s a, Ahead s (f s a)) : ∀ (l : List α) (s : DS), Ahead s (l.foldl f s)
  | [], s => Ahead.refl s
  | a :: l, s => (hf s a).trans (foldl_ahead f hf l (f s a))
theorem come_ahead {L : List Nd} {put : Int → Int → Int × Int → DS → DS} (hp : ∀ id key v S, Ahead S (put id key v S)) (frm id key : Int) (v : Int × Int) (S : DS) : Ahead S (comeD L put frm id key v S) := by
  unfold comeD
  split
  · exact Ahead.refl S
  · split
    · exact ⟨_, rfl⟩
    · exact Ahead.trans (b := ⟨_, S.out, _⟩) ⟨[], by simp⟩ (foldl_ahead _ (fun s u => hp _ _ _ _) _ _)
theorem put_ahead (L : List Nd) : ∀ (d : Nat) (id key : Int) (v : Int × Int) (S : DS), Ahead S (putD L d id key v S)
  | 0, _, _, _, S => Ahead.refl S
  | d + 1, id, key, v, S => foldl_ahead _ (fun s c => come_ahead (put_ahead L d) _ _ _ _ _) _ _
/-- May a key be? -/
def keyOk (k : Int) : Prop := 0 ≤ k ∧ k < 64
/-- Of an operator of a right graph: its program is safe. -/
theorem op_safe {L : List Nd} (h : RightG L) {x : Nd} (hx : x ∈ L) (h2 : x.kind ≠ 2) (h0 : x.id ≠ 0) : ∃ s, chkL x.pg = some s := by
  have hk := (nodeB_iff.1 (h.each x hx)).2.2.1
  have hz := kindB_zero hk
  unfold kindB at hk
  rw [if_neg (fun e => h0 (hz.2 e))] at hk
  split at hk
  · simp only [Bool.and_eq_true] at hk
    exact Option.isSome_iff_exists.1 hk.2.2
  · cases hk
theorem child_node {L : List Nd} (h : RightG L) {id c : Int} (hc : c ∈ childN L id) : ∃ x ∈ L, x.id = c ∧ findN L c = some x ∧ c ≠ 0 ∧ id ∈ x.fr := by
  obtain ⟨x, hx, e, hf⟩ := childN_mem.1 hc
  refine ⟨x, hx, e, by rw [← e]; exact findN_one h.uni hx, fun e0 => ?_, hf⟩
  have hk := (nodeB_iff.1 (h.each x hx)).2.2.1
  have hz := kindB_zero hk
  have h0 : x.kind = 0 := hz.1 (by rw [e]; exact e0)
  unfold kindB at hk
  rw [if_pos h0] at hk
  simp only [Bool.and_eq_true, decide_eq_true_eq] at hk
  have := hk.2.1
  rw [List.length_eq_zero_iff] at this
  rw [this] at hf
  cases hf
theorem place_there {L : List Nd} (h : RightG L) {x : Nd} (hx : x ∈ L) {key : Int} (hk : keyOk key) : thereB (x.id, key) = true := by
  have h1 := nodeB_iff.1 (h.each x hx)
  unfold thereB
  exact decide_eq_true ⟨h1.1, h1.2.1, hk.1, hk.2⟩
theorem T_ok {T : Pk → CV} (h : TOk T) (p : Pk) : cvB (T p) = true := by
  by_cases e : T p = c0
  · rw [e]; decide
  · exact (h p e).2
theorem keep_ok {L : List Nd} (h : RightG L) {x : Nd} (hx : x ∈ L) {s : CS} (hs : chkL x.pg = some s) {T : Pk → CV} (hT : TOk T) {key : Int} (hk : keyOk key) {v : Int × Int} (hv : vOk v) : TOk (keepD x T x.id key v) ∧ ∀ u ∈ emitsD x T x.id key v, vOk u := by
  obtain ⟨h1, h2⟩ := prog_ok (safe_of hs) hv (cvB_ok (T_ok hT (x.id, key)))
  refine ⟨hT.upd ?_, h2⟩
  unfold setB2
  rw [place_there h hx hk, cvT_ok h1]
  rfl
theorem put_ok {L : List Nd} (h : RightG L) : ∀ (d : Nat) (id key : Int) (v : Int × Int) (S : DS), keyOk key → vOk v → TOk S.T → TOk (putD L d id key v S).T
  | 0, _, _, _, S, _, _, hT => hT
  | d + 1, id, key, v, S, hk, hv, hT => by
    unfold putD
    refine foldl_ind (fun s : DS => TOk s.T) _ _ _ hT fun s c hc hs => ?_
    obtain ⟨x, hx, e, hf, h0, _⟩ := child_node h hc
    unfold comeD
    rw [hf]
    simp only
    split
    · exact hs
    · rename_i h2
      obtain ⟨t, ht⟩ := op_safe h hx h2 (by rw [e]; exact h0)
      obtain ⟨k1, k2⟩ := keep_ok h hx ht hs hk hv
      rw [e] at k1 k2
      exact foldl_ind (fun s : DS => TOk s.T) _ _ _ k1 fun s u hu hs => put_ok h d c key u s hk (k2 u hu) hs
theorem come_ok {L : List Nd} (h : RightG L) {d : Nat} {frm c key : Int} {v : Int × Int} {S : DS} {id : Int} (hc : c ∈ childN L id) (hk : keyOk key) (hv : vOk v) (hT : TOk S.T) : TOk (comeD L (putD L d) frm c key v S).T := by
  obtain ⟨x, hx, e, hf, h0, _⟩ := child_node h hc
  unfold comeD
  rw [hf]
  simp only
  split
  · exact hT
  · rename_i h2
    obtain ⟨t, ht⟩ := op_safe h hx h2 (by rw [e]; exact h0)
    obtain ⟨k1, k2⟩ := keep_ok h hx ht hT hk hv
    rw [e] at k1 k2
    exact foldl_ind (fun s : DS => TOk s.T) _ _ _ k1 fun s u hu hs => put_ok h d c key u s hk (k2 u hu) hs
end Go.Proofs.YthfibggbipkmfaaGreat
namespace Go.Proofs.YthfibggbipkmfaaGreat
open Go.RowKit Go.Fb
set_option linter.unusedVariables false
/-- The flow's maps, which stay as they are. -/
structure FlS (b0 : Nat) (w3 : World) (gf gn gc gk gt gm : Nat) (L : List Nd) (TN TC : Int → Option Value) : Prop where
  n : IMap w3 gn TN
  c : IMap w3 gc TC
  ns : ∀ x ∈ L, ∃ Af nf cf Ap np cp, TN x.id = some (.agg (ndA x (.slice Af nf cf) (.slice Ap np cp))) ∧ np = x.pg.length ∧ Reads w3 b0 2 Ap np (cellsI x.pg) ∧ Fresh (gf + 1) (.slice Ap np cp)
  cs : ∀ x ∈ L, ∃ A q c, TC x.id = some (.slice A q c) ∧ q = (childN L x.id).length ∧ Reads w3 b0 1 A q ((childN L x.id).map (Value.int .i64)) ∧ Fresh (gf + 1) (.slice A q c)
  o : gm < gn ∧ gt < gn ∧ gn < gc ∧ gc < gk ∧ gk < gf ∧ gf < b0 ∧ b0 ≤ w3.heap.size
theorem reads_kept {w3 w : World} {b0 gf gk gm size n c : Nat} {A : Option Addr} {xs : List Value} (h : Reads w3 b0 size A n xs) (hf : Fresh (gf + 1) (.slice A n c)) (F : Fr b0 [gf, gk, gm] w3 w) (o : gm < gf ∧ gk < gf) : Reads w b0 size A n xs :=
  h.frL F (Nat.le_refl _) (fun hn ad ha hm => by
    have h1 := hf _ _ _ rfl hn ad ha
    simp at hm
    omega)
theorem FlD.frL {b0 : Nat} {w w' : World} {gf gn gc gk gt : Nat} {C : Int → Option Int} {out : List (Nat → Int)} {A : Option Addr} {n c B : Nat} {L : List Nat} (h : FlD b0 w gf gn gc gk gt C out A n c) (hf : Fr B L w w') (hB : w.heap.size ≤ B) (h1 : gf ∉ L) (h2 : gk ∉ L) (h3 : ∀ q, (Value.slice A n c).ownBlock = some q → q ∉ L) : FlD b0 w' gf gn gc gk gt C out A n c :=
  ⟨h.num, h.blk.fr hf (Nat.lt_of_lt_of_le h.blk.lt hB) h1, h.cnt.fr hf (Nat.lt_of_lt_of_le h.cnt.lt hB) h2, ownsRow_fr h.row hf (fun q hq => ⟨Nat.lt_of_lt_of_le (h.row.lt q hq).2 hB, h3 q hq⟩)⟩
def PutOut (b0 gf gn gc gk gt gm : Nat) (S' : DS) (A : Option Addr) (n c : Nat) (w : World) (e : Ending) (w' : World) : Prop :=
  e = .returned (.tuple #[]) ∧ ∃ A' n' c', FlD b0 w' gf gn gc gk gt S'.C S'.out A' n' c' ∧ (∀ q, (Value.slice A' n' c').ownBlock = some q → (Value.slice A n c).ownBlock = some q ∨ w.heap.size ≤ q) ∧ CT w' gt gm S'.T ∧ Fr w.heap.size (gf :: gk :: gm :: (Value.slice A n c).ownBlock.toList) w w'
/-- What a call of put, or come, asks for. -/
structure PutIn (b0 : Nat) (w3 : World) (gf gn gc gk gt gm : Nat) (key : Int) (v : Int × Int) (S : DS) (A : Option Addr) (n c : Nat) (w : World) : Prop where
  k : keyOk key
  v : vOk v
  t : TOk S.T
  d : FlD b0 w gf gn gc gk gt S.C S.out A n c
  ct : CT w gt gm S.T
  f : Fr b0 [gf, gk, gm] w3 w
theorem PutIn.own {b0 : Nat} {w3 : World} {gf gn gc gk gt gm : Nat} {key : Int} {v : Int × Int} {S : DS} {A : Option Addr} {n c : Nat} {w : World} (h : PutIn b0 w3 gf gn gc gk gt gm key v S A n c w) : ∀ q, (Value.slice A n c).ownBlock = some q → b0 ≤ q ∧ q < w.heap.size := fun q hq => h.d.row.lt q hq
set_option maxRecDepth 100000 in
set_option maxHeartbeats 8000000 in
theorem come_op (b0 gf gn gc gk gt gm : Nat) (w3 : World) (L : List Nd) (TN TC : Int → Option Value) (hS : FlS b0 w3 gf gn gc gk gt gm L TN TC) (hR : RightG L) (put : Int → Int → Int × Int → DS → DS) (hah : ∀ id key v S, Ahead S (put id key v S)) (x : Nd) (hx : x ∈ L) (h2 : x.kind ≠ 2) (h0 : x.id ≠ 0)
    (hok : ∀ key v S, keyOk key → vOk v → TOk S.T → TOk (put x.id key v S).T)
    (hput : ∀ key v S A n c w, PutIn b0 w3 gf gn gc gk gt gm key v S A n c w → (put x.id key v S).out.length ≤ 6000000000 → Calls Tryz.prog 59 #[.pointer (some ⟨gf, 0, none⟩), .int .i64 x.id, .agg #[.int .i64 key, .int .i64 v.1, .int .i64 v.2]] w (PutOut b0 gf gn gc gk gt gm (put x.id key v S) A n c w))
    (frm key : Int) (v : Int × Int) (S : DS) (A : Option Addr) (n c : Nat) (w : World) (hI : PutIn b0 w3 gf gn gc gk gt gm key v S A n c w) (hlen : (comeD L put frm x.id key v S).out.length ≤ 6000000000) :
    Calls Tryz.prog 93 #[.pointer (some ⟨gf, 0, none⟩), .int .i64 frm, .int .i64 x.id, .agg #[.int .i64 key, .int .i64 v.1, .int .i64 v.2]] w (PutOut b0 gf gn gc gk gt gm (comeD L put frm x.id key v S) A n c w) := by
  obtain ⟨Af, nf, cf, Ap, np, cp, hTN, hnp, hrp, hfp⟩ := hS.ns x hx
  obtain ⟨o1, o2, o3, o4, o5, o6, o7⟩ := hS.o
  obtain ⟨s, hs⟩ := op_safe hR hx h2 h0
  have hpl := place_there hR hx hI.k
  obtain ⟨hk1, hk2⟩ := keep_ok hR hx hs hI.t hI.k hI.v
  have hce : comeD L put frm x.id key v S = (emitsD x S.T x.id key v).foldl (fun s u => put x.id key u s) ⟨keepD x S.T x.id key v, S.out, cntU S.C x.id⟩ := by
    unfold comeD
    rw [findN_one hR.uni hx]
    simp only
    rw [if_neg h2]
  rw [hce] at hlen ⊢
  obtain ⟨id, hid⟩ : ∃ i, i = x.id := ⟨_, rfl⟩
  rw [← hid] at hTN hput hlen hk1 hk2 hpl hok ⊢
  have hszE : (emitsD x S.T id key v).length ≤ 1000 := Nat.le_trans (outP_len hs v _) (by decide)
  obtain ⟨o, ho⟩ : ∃ o, o = emitsD x S.T id key v := ⟨_, rfl⟩
  obtain ⟨T1, hT1⟩ : ∃ T1, T1 = keepD x S.T id key v := ⟨_, rfl⟩
  have HRUN := Lib.hid (fun (wx : World) (hct : CT wx gt gm S.T) (hrx : Reads wx b0 2 Ap np (cellsI x.pg)) (hbx : b0 ≤ wx.heap.size) => (by
    have h := ctrun_any gt gm S.T (id, key) Ap cp b0 x.pg s v wx hct hs (by rw [← hnp]; exact hrx) hbx hI.v hpl (T_ok hI.t _) hszE
    unfold TRunOut at h
    rw [← hnp] at h
    rw [ho, hT1]
    exact h : Calls Tryz.prog 115 #[.pointer (some ⟨gt, 0, none⟩), .int .i64 id, .slice Ap np cp, .agg #[.int .i64 key, .int .i64 v.1, .int .i64 v.2]] wx fun e w' => ∃ A n c, n = o.length ∧ e = .returned (.tuple #[.slice A n c, .int .i64 0]) ∧ w'.ownsRow wx.heap.size 56 3 (.slice A n c) n (cellsR (rcL key o)) ∧ CT w' gt gm T1 ∧ Fr wx.heap.size [gm] wx w'))
  have HSZE := Lib.hid (show o.length ≤ 6000000000 by rw [ho]; exact Nat.le_trans hszE (by decide))
  rw [← ho, ← hT1] at hlen
  rw [← hT1] at hk1
  rw [← ho] at hk2
  rw [← ho, ← hT1]
  obtain ⟨S1, hS1⟩ : ∃ S1 : DS, S1 = ⟨T1, S.out, cntU S.C id⟩ := ⟨_, rfl⟩
  rw [← hS1] at hlen ⊢
  have HE1 := Lib.hid (show S1.T = T1 by rw [hS1])
  have HE2 := Lib.hid (show S1.out = S.out by rw [hS1])
  have HE3 := Lib.hid (show S1.C = cntU S.C id by rw [hS1])
  clear hS1
  have HOK2 := Lib.hid hk2
  have HT1K := Lib.hid hk1
  have HPUT := Lib.hid hput
  have HAH := Lib.hid hah
  have HOKP := Lib.hid hok
  have HI := Lib.hid hI
  have HSS := Lib.hid hS
  have HTN := Lib.hid hTN
  have HRP := Lib.hid (fun (wx : World) (hf : Fr b0 [gf, gk, gm] w3 wx) => reads_kept hrp hfp hf ⟨by omega, by omega⟩)
  have HLEN := Lib.hid hlen
  have HD := Lib.hid hI.d
  have HCT := Lib.hid hI.ct
  have HF3 := Lib.hid hI.f
  have hb4 : b0 ≤ w.heap.size := Nat.le_trans o7 hI.f.size
  have hKD : x.kind ≠ 2 := h2
  obtain ⟨kd, hkd⟩ : ∃ k, k = x.kind := ⟨_, rfl⟩
  rw [← hkd] at hKD
  have HKD := Lib.hid hkd
  have HZN := Lib.hid (show ∀ u, (zeroValue 49).run Tryz.prog u = .ok (.agg ndZ) u from fun u => by kernel_rfl)
  have HZI := Lib.hid (show ∀ u, (zeroValue 3).run Tryz.prog u = .ok (.int .i64 0) u from fun u => by kernel_rfl)
  have HOWN := Lib.hid hI.own
  clear hTN hnp hrp hfp hs hpl hk1 hk2 hce hput hok hah hI hS h2 hlen hszE ho hT1 hkd hx h0 hid
  have fa := (Fr.refl w.heap.size [] w).alloc (Nat.le_refl _) (.cells #[.int .i64 key, .int .i64 v.1, .int .i64 v.2] 56)
  have BR := Lib.hid (Blk.new w 56 #[.int .i64 key, .int .i64 v.1, .int .i64 v.2])
  have D1 := Lib.hid (HD.out.mv fa)
  have CT1 := Lib.hid (HCT.out.keep fa)
  obtain ⟨LL, hLL⟩ : ∃ LL, LL = gf :: gk :: gm :: (Value.slice A n c).ownBlock.toList := ⟨_, rfl⟩
  have HLL := Lib.hid hLL
  have HLm := Lib.hid (show ∀ q, q ∈ LL ↔ (q = gf ∨ q = gk ∨ q = gm ∨ (Value.slice A n c).ownBlock = some q) from fun q => by rw [hLL]; simp)
  unfold PutOut
  rw [← hLL]
  have F1 := Lib.hid (fa.mono (B' := w.heap.size) (L' := LL) (Nat.le_refl _) (by simp))
  have hsz1 : w.heap.size ≤ (w.alloc (.cells #[.int .i64 key, .int .i64 v.1, .int .i64 v.2] 56)).heap.size := fa.size
  have HB := Lib.hid (fun (wx : World) (F : Fr w.heap.size LL w wx) => (show Fr b0 [gf, gk, gm] w3 wx from HF3.out.trans (F.mono (B' := b0) (L' := [gf, gk, gm]) hb4 (fun q hq hlt => by
    rcases (HLm.out q).1 hq with e | e | e | e
    · simp [e]
    · simp [e]
    · simp [e]
    · have := (HOWN.out q e).1; omega))))
  clear fa HD HCT hLL
  go_enter Tryz.func93, Tryz.ntmps93
  go_upto_region 1 with fail
  generalize w.alloc (.cells #[.int .i64 key, .int .i64 v.1, .int .i64 v.2] 56) = w1 at *
  obtain ⟨gr, hgre⟩ : ∃ g, g = w.heap.size := ⟨_, rfl⟩
  rw [← hgre] at BR F1 hb4 hsz1 HB ⊢
  have HGR := Lib.hid hgre
  clear hgre
  have q0 : w1.cell? ⟨gf, 0, none⟩ = some (.map (some gn)) := D1.out.blk.cell 0
  have hnL : gn ∉ [gf, gk, gm] := by simp; omega
  have hlk := (HSS.out.n.fr (HB.out w1 F1.out) (by omega) hnL).look Tryz.underlying83 HZN.out id
  rw [HTN.out] at hlk
  simp only [Option.getD_some] at hlk
  have hg1 : gr < w1.heap.size := BR.out.lt
  have fb := (Fr.refl w1.heap.size [] w1).alloc (Nat.le_refl _) (.cells (ndA x (.slice Af nf cf) (.slice Ap np cp)) 49)
  have BN := Lib.hid (Blk.new w1 49 (ndA x (.slice Af nf cf) (.slice Ap np cp)))
  have D2 := Lib.hid (D1.out.mv fb)
  have CT2 := Lib.hid (CT1.out.keep fb)
  have BR2 := Lib.hid (BR.out.fr fb BR.out.lt (by simp))
  have F2 := Lib.hid (F1.out.trans (fb.mono (B' := gr) (L' := LL) hsz1 (by simp)))
  go_upto_region 2 with fail
  clear fb q0 hlk D1 BR F1 CT1
  generalize w1.alloc (.cells (ndA x (.slice Af nf cf) (.slice Ap np cp)) 49) = w2 at *
  obtain ⟨gx, hgx⟩ : ∃ g, g = w1.heap.size := ⟨_, rfl⟩
  rw [← hgx] at BN ⊢
  have hgx0 : b0 ≤ gx := by omega
  clear hgx
  have q4 : w2.cell? ⟨gf, 4, none⟩ = some (.map (some gk)) := D2.out.blk.cell 4
  have hlc := D2.out.cnt.look Tryz.underlying34 HZI.out id
  rw [cntT_get] at hlc
  obtain ⟨u, hu⟩ : ∃ u, u = (S.C id).getD 0 := ⟨_, rfl⟩
  rw [← hu] at hlc
  obtain ⟨w4, hup, hm4, f4, hs4⟩ := D2.out.cnt.upd Tryz.underlying34 id (.int .i64 (wrap64 (u + 1)))
  rw [hu, cntU_T] at hm4
  have BN4 := Lib.hid (BN.out.fr f4 BN.out.lt (by simp; omega))
  have BR4 := Lib.hid (BR2.out.fr f4 BR2.out.lt (by simp; omega))
  have CT4 := Lib.hid (CT2.out.fr f4 CT2.out.bk.lt (by simp; omega) CT2.out.mp.lt (by simp; omega))
  have D4 := Lib.hid (show FlD b0 w4 gf gn gc gk gt (cntU S.C id) S.out A n c from ⟨D2.out.num, D2.out.blk.fr f4 D2.out.blk.lt (by simp; omega), hm4, ownsRow_fr D2.out.row f4 (fun q hq => ⟨(D2.out.row.lt q hq).2, by have := (D2.out.row.lt q hq).1; simp; omega⟩)⟩)
  have F4 := Lib.hid (F2.out.trans (f4.mono (B' := gr) (L' := LL) (Nat.le_of_lt BR2.out.lt) (by intro q hq _; simp at hq; exact (HLm.out q).2 (.inr (.inl hq)))))
  have hb24 : b0 ≤ w4.heap.size := by rw [hs4]; have := BN.out.lt; omega
  have hgr4 : gr < w4.heap.size := BR4.out.lt
  clear hm4 f4 hs4 hu D2 BR2 F2 BN CT2
  have x1 : w4.cell? ⟨gx, 1, none⟩ = some (.int .i64 kd) := by rw [HKD.out]; exact BN4.out.cell 1
  go_upto_region 5 with fail
  clear q4 hlc hup x1
  have g2 := D4.out.blk.cell 2
  have x3 : w4.cell? ⟨gx, 3, none⟩ = some (.slice Ap np cp) := BN4.out.cell 3
  have r0 := BR4.out.cell 0
  have r1 := BR4.out.cell 1
  have r2 := BR4.out.cell 2
  simp at g2 r0 r1 r2
  have HRUN4 := Lib.hid (HRUN.out w4.drew (CT4.out.keep (Fr.refl _ _ _).drew) (HRP.out w4.drew (HB.out _ F4.out.drew)) hb24)
  go_cut [9] (fun s9 wx => ∃ A1 n1 c1, s9 = .slice A1 n1 c1 ∧ n1 = o.length ∧ wx.ownsRow w4.heap.size 56 3 (.slice A1 n1 c1) n1 (cellsR (rcL key o)) ∧ CT wx gt gm T1 ∧ Fr w4.heap.size [gm] w4 wx)
  case first =>
    go_region_law ((rw [if_pos (by rfl)]; go_simp; refine HRUN4.out.mono ?_; rintro e w5 ⟨A1, n1, c1, hn1, rfl, how, hct5, f5⟩; have HN1 := Lib.hid hn1; clear hn1; dsimp only))
    all_goals
      go_wp2_with fail
      go_meet
      exact ⟨A1, n1, c1, rfl, HN1.out, how, hct5, (Fr.refl _ _ _).drew.trans f5⟩
  case rest =>
    obtain ⟨A1, n1, c1, rfl, hn1, how, hct, f5⟩ := hcut
    have HN := Lib.hid hn1
    have HRV := Lib.hid (Reads.of_own how)
    have HRB := Lib.hid (show ∀ ad, A1 = some ad → w4.heap.size ≤ ad.block from fun ad ha => by
      obtain ⟨A2, c2, e, h, _⟩ := ownsRow_shape how
      injection e with e
      subst e
      exact (h ad ha).2.2.1)
    have HCT5 := Lib.hid hct
    have D5 := Lib.hid (D4.out.frL f5 (Nat.le_refl _) (by simp; omega) (by simp; omega) (fun q hq => by have := (D4.out.row.lt q hq).1; simp; omega))
    have F5 := Lib.hid (F4.out.trans (f5.mono (B' := gr) (L' := LL) (Nat.le_of_lt hgr4) (by intro q hq _; simp at hq; exact (HLm.out q).2 (.inr (.inr (.inl hq))))))
    have h45 : w4.heap.size ≤ wc.heap.size := f5.size
    have hn24 : n1 ≤ 6000000000 := by rw [hn1]; exact HSZE.out
    clear hn1 how hct f5 HRUN HRUN4 D4 F4 CT4 BN4 BR4 g2 x3 r0 r1 r2 HRP HZN HZI HTN HKD hKD HSS
    rw [← HE1.out] at HCT5 HT1K
    rw [← HE2.out, ← HE3.out] at D5
    clear HE1 HE2 HE3
    go_wp2_with fail
    go_loopg [12, 59] n1 (fun g s12 s59 wr => ∃ (j : Nat) (A' : Option Addr) (n' c' : Nat), j ≤ n1 ∧ g = n1 - j ∧ s59 = .int .i64 j ∧ (s12 = undef ∨ ∃ a, s12 = .pointer a) ∧ RowKit.Hid (FlD b0 wr gf gn gc gk gt ((o.take j).foldl (fun s u => put id key u s) S1).C ((o.take j).foldl (fun s u => put id key u s) S1).out A' n' c') ∧ RowKit.Hid (CT wr gt gm ((o.take j).foldl (fun s u => put id key u s) S1).T ∧ TOk ((o.take j).foldl (fun s u => put id key u s) S1).T) ∧ RowKit.Hid (∀ q, (Value.slice A' n' c').ownBlock = some q → (Value.slice A n c).ownBlock = some q ∨ wc.heap.size ≤ q) ∧ RowKit.Hid (Fr wc.heap.size LL wc wr))
    case atStart => exact ⟨0, A, n, c, Nat.zero_le _, rfl, rfl, .inl rfl, D5, Lib.hid ⟨HCT5.out, HT1K.out⟩, Lib.hid (fun q hq => .inl hq), Lib.hid (Fr.refl _ _ _)⟩
    case round =>
      clear D5 HCT5
      obtain ⟨j, A', n', c', hj, rfl, rfl, h12, D, CTJ, HO, F⟩ := hrel
      have hsz := F.out.size
      by_cases hjn : j < n1
      · have hji : (j : Int) < (n1 : Int) := by omega
        have hj0 : (0 : Int) ≤ (j : Int) := by omega
        obtain ⟨u, hu⟩ : ∃ u, o[j]? = some u := ⟨_, List.getElem?_eq_getElem (by rw [← HN.out]; exact hjn)⟩
        have hur : (rcL key o)[j]? = some (rcF key u) := by unfold rcL; rw [List.getElem?_map, hu]; rfl
        have hnr : n1 = (rcL key o).length := by unfold rcL; rw [List.length_map]; exact HN.out
        obtain ⟨b, off, rfl, hbl, hc⟩ := reads_rec (by rw [← hnr]; exact HRV.out.frL (F.out.mono (B' := wc.heap.size) (L' := LL) (Nat.le_refl _) (fun q hq _ => hq)) (Nat.le_refl _) (fun hn ad ha hm => by
          have h1 := HRB.out ad ha
          rcases (HLm.out _).1 hm with e | e | e | e
          · omega
          · omega
          · omega
          · have := (HOWN.out _ e).2; have := HGR.out; omega)) hur
        have p0 : wr.cell? ⟨b, off + j * 3, none⟩ = some (.int .i64 key) := hc 0 (by omega)
        have p1 : wr.cell? ⟨b, off + j * 3 + 1, none⟩ = some (.int .i64 u.1) := hc 1 (by omega)
        have p2 : wr.cell? ⟨b, off + j * 3 + 2, none⟩ = some (.int .i64 u.2) := hc 2 (by omega)
        have HTK := Lib.hid (show (o.take (j + 1)).foldl (fun s u => put id key u s) S1 = put id key u ((o.take j).foldl (fun s u => put id key u s) S1) by rw [List.take_add_one, hu, List.foldl_append]; rfl)
        have HUO := Lib.hid (HOK2.out u (List.mem_of_getElem? hu))
        have HLJ := Lib.hid (show (put id key u ((o.take j).foldl (fun s u => put id key u s) S1)).out.length ≤ 6000000000 by
          rw [← HTK.out]
          refine Nat.le_trans (Ahead.len ?_) HLEN.out
          conv => rhs; rw [← List.take_append_drop (j + 1) o, List.foldl_append]
          exact foldl_ahead _ (fun s u => HAH.out id key u s) _ _)
        clear hc hur hnr hu hbl
        have fa := (Fr.refl wr.heap.size [] wr).alloc (Nat.le_refl _) (.cells #[.int .i64 key, .int .i64 u.1, .int .i64 u.2] 56)
        have BX := Lib.hid (Blk.new wr 56 #[.int .i64 key, .int .i64 u.1, .int .i64 u.2])
        have DA := Lib.hid (D.out.mv fa)
        have CTA := Lib.hid (CTJ.out.1.keep fa)
        have FA := Lib.hid (F.out.trans (fa.mono (B' := wc.heap.size) (L' := LL) hsz (by simp)))
        have HTA := Lib.hid CTJ.out.2
        clear fa D F CTJ
        go_upto_region 9 with fail
        clear p0 p1 p2
        generalize wr.alloc (.cells #[.int .i64 key, .int .i64 u.1, .int .i64 u.2] 56) = wa at *
        have hwa : wc.heap.size ≤ wa.heap.size := FA.out.size
        obtain ⟨SJ, hSJ⟩ : ∃ s, s = (o.take j).foldl (fun s u => put id key u s) S1 := ⟨_, rfl⟩
        rw [← hSJ] at HTK HLJ DA CTA HTA
        have FWA := Lib.hid (F5.out.trans (FA.out.mono (B' := gr) (L' := LL) (by omega) (fun q hq _ => hq)))
        have HPT := Lib.hid (HPUT.out key u SJ A' n' c' wa ⟨HI.out.k, HUO.out, HTA.out, DA.out, CTA.out, HB.out wa FWA.out⟩ HLJ.out)
        have x0 := BX.out.cell 0
        have x1 := BX.out.cell 1
        have x2 := BX.out.cell 2
        simp at x0 x1 x2
        go_wp2_with fail
        refine HPT.out.mono ?_
        rintro e w6 ⟨rfl, A6, n6, c6, d6, o6', ct6, f6⟩
        have D6 := Lib.hid d6
        have CT6 := Lib.hid (And.intro ct6 (HOKP.out key u SJ HI.out.k HUO.out HTA.out))
        have HO6 := Lib.hid (show ∀ q, (Value.slice A6 n6 c6).ownBlock = some q → (Value.slice A n c).ownBlock = some q ∨ wc.heap.size ≤ q from fun q hq => by
          rcases o6' q hq with h | h
          · exact HO.out q h
          · exact .inr (by omega))
        have F6 := Lib.hid (FA.out.trans (f6.mono (B' := wc.heap.size) (L' := LL) hwa (fun q hq hlt => by
          simp at hq
          rcases hq with e | e | e | e
          · exact (HLm.out q).2 (.inl e)
          · exact (HLm.out q).2 (.inr (.inl e))
          · exact (HLm.out q).2 (.inr (.inr (.inl e)))
          · rcases HO.out q e with h | h
            · exact (HLm.out q).2 (.inr (.inr (.inr h)))
            · omega)))
        rw [← HTK.out] at D6 CT6
        clear d6 o6' ct6 f6 HPT DA CTA HTA FA BX x0 x1 x2 HO FWA
        go_wp2_with fail
        go_roundg (n1 - (j + 1))
        case measure => omega
        case rel => exact ⟨j + 1, A6, n6, c6, by omega, rfl, by go_num, .inr ⟨_, rfl⟩, D6, CT6, HO6, F6⟩
      · obtain rfl : n1 = j := by omega
        have hT : o.take n1 = o := List.take_of_length_le (by rw [HN.out]; exact Nat.le_refl _)
        rw [hT] at D CTJ
        clear hT
        go_wp2_with fail
        have h1 : Fr gr LL w wr := F5.out.trans (F.out.mono (B' := gr) (L' := LL) (by omega) (fun q hq _ => hq))
        have h2 : ∀ q, (Value.slice A' n' c').ownBlock = some q → (Value.slice A n c).ownBlock = some q ∨ gr ≤ q := fun q hq => by
          rcases HO.out q hq with h | h
          · exact .inl h
          · exact .inr (by omega)
        go_end0
        exact ⟨rfl, A', n', c', D.out, by rw [← HGR.out]; exact h2, CTJ.out.1, by rw [← HGR.out]; exact h1⟩
end Go.Proofs.YthfibggbipkmfaaGreat
namespace Go.Proofs.YthfibggbipkmfaaGreat
open Go.RowKit Go.Fb
set_option linter.unusedVariables false
theorem come_snk (b0 gf gn gc gk gt gm : Nat) (w3 : World) (L : List Nd) (TN TC : Int → Option Value) (hS : FlS b0 w3 gf gn gc gk gt gm L TN TC) (hR : RightG L) (put : Int → Int → Int × Int → DS → DS) (x : Nd) (hx : x ∈ L) (h2 : x.kind = 2)
    (frm key : Int) (v : Int × Int) (S : DS) (A : Option Addr) (n c : Nat) (w : World) (hI : PutIn b0 w3 gf gn gc gk gt gm key v S A n c w) (hlen : (comeD L put frm x.id key v S).out.length ≤ 6000000000) :
    Calls Tryz.prog 93 #[.pointer (some ⟨gf, 0, none⟩), .int .i64 frm, .int .i64 x.id, .agg #[.int .i64 key, .int .i64 v.1, .int .i64 v.2]] w (PutOut b0 gf gn gc gk gt gm (comeD L put frm x.id key v S) A n c w) := by
  obtain ⟨Af, nf, cf, Ap, np, cp, hTN, _⟩ := hS.ns x hx
  obtain ⟨o1, o2, o3, o4, o5, o6, o7⟩ := hS.o
  have hb4 : b0 ≤ w.heap.size := Nat.le_trans o7 hI.f.size
  have hce : comeD L put frm x.id key v S = ⟨S.T, S.out ++ [lnF x.id frm key v.1 v.2], cntU S.C x.id⟩ := by
    unfold comeD
    rw [findN_one hR.uni hx]
    simp only
    rw [if_pos h2]
  rw [hce] at hlen ⊢
  have hn : n ≤ 6000000000 := by
    have h1 := hI.d.num
    simp only [List.length_append] at hlen
    omega
  refine (come_sink b0 gf gn gc gk gt TN S.C S.out A n c frm x.id x (.slice Af nf cf) (.slice Ap np cp) key v.1 v.2 w hI.d (hS.n.fr hI.f (by omega) (by simp; omega)) hTN ⟨Af, nf, cf, Ap, np, cp, rfl, rfl⟩ h2 ⟨by omega, o5, o6, hb4⟩ hn).mono ?_
  rintro e w' ⟨rfl, ⟨A', c', d, o⟩, f⟩
  refine ⟨rfl, A', n + 1, c', d, o, ?_, ?_⟩
  · have hm : ∀ q, q ∈ (gf :: gk :: (Value.slice A n c).ownBlock.toList) → q = gf ∨ q = gk ∨ b0 ≤ q := fun q hq => by
      simp at hq
      rcases hq with e | e | e
      · exact .inl e
      · exact .inr (.inl e)
      · exact .inr (.inr (hI.own q e).1)
    exact hI.ct.fr f hI.ct.bk.lt (fun h => by rcases hm _ h with e | e | e <;> omega) hI.ct.mp.lt (fun h => by rcases hm _ h with e | e | e <;> omega)
  · exact f.mono (Nat.le_refl _) (fun q hq _ => by
      simp at hq ⊢
      rcases hq with e | e | e
      · exact .inl e
      · exact .inr (.inl e)
      · exact .inr (.inr (.inr e)))
theorem childN_len {L : List Nd} (h : RightG L) (id : Int) : (childN L id).length ≤ 8 := by
  have h1 := kidsN_le L id []
  have h2 : (childN L id).length = (kidsN L id []).length := (srt_perm _).length_eq
  have h3 := h.len
  simp at h1
  omega
set_option maxRecDepth 100000 in
set_option maxHeartbeats 8000000 in
theorem put_step (b0 gf gn gc gk gt gm : Nat) (w3 : World) (L : List Nd) (TN TC : Int → Option Value) (hS : FlS b0 w3 gf gn gc gk gt gm L TN TC) (hR : RightG L) (cm : Int → DS → DS) (x : Nd) (hx : x ∈ L) (key : Int) (v : Int × Int)
    (hah : ∀ c S, Ahead S (cm c S)) (hok : ∀ c ∈ childN L x.id, ∀ S, TOk S.T → TOk (cm c S).T)
    (hcm : ∀ c ∈ childN L x.id, ∀ S A n cc w, PutIn b0 w3 gf gn gc gk gt gm key v S A n cc w → (cm c S).out.length ≤ 6000000000 → Calls Tryz.prog 93 #[.pointer (some ⟨gf, 0, none⟩), .int .i64 x.id, .int .i64 c, .agg #[.int .i64 key, .int .i64 v.1, .int .i64 v.2]] w (PutOut b0 gf gn gc gk gt gm (cm c S) A n cc w))
    (S : DS) (A : Option Addr) (n c : Nat) (w : World) (hI : PutIn b0 w3 gf gn gc gk gt gm key v S A n c w) (hlen : ((childN L x.id).foldl (fun s c => cm c s) S).out.length ≤ 6000000000) :
    Calls Tryz.prog 59 #[.pointer (some ⟨gf, 0, none⟩), .int .i64 x.id, .agg #[.int .i64 key, .int .i64 v.1, .int .i64 v.2]] w (PutOut b0 gf gn gc gk gt gm ((childN L x.id).foldl (fun s c => cm c s) S) A n c w) := by
  obtain ⟨Ac, nc, cc, hTC, hnc, hrc, hfc⟩ := hS.cs x hx
  obtain ⟨o1, o2, o3, o4, o5, o6, o7⟩ := hS.o
  obtain ⟨K, hK⟩ : ∃ K, K = childN L x.id := ⟨_, rfl⟩
  have hnc8 : nc ≤ 8 := by rw [hnc]; exact childN_len hR x.id
  rw [← hK] at hnc hrc hcm hok hlen ⊢
  obtain ⟨id, hid⟩ : ∃ i, i = x.id := ⟨_, rfl⟩
  rw [← hid] at hTC hcm ⊢
  have HCM := Lib.hid hcm
  have HAH := Lib.hid hah
  have HOK := Lib.hid hok
  have HI := Lib.hid hI
  have HSS := Lib.hid hS
  have HTC := Lib.hid hTC
  have HNC := Lib.hid hnc
  have HRC := Lib.hid (fun (wx : World) (hf : Fr b0 [gf, gk, gm] w3 wx) => reads_kept hrc hfc hf ⟨by omega, by omega⟩)
  have HLEN := Lib.hid hlen
  have HD := Lib.hid hI.d
  have HCT := Lib.hid hI.ct
  have HTO := Lib.hid hI.t
  have HF3 := Lib.hid hI.f
  have hb4 : b0 ≤ w.heap.size := Nat.le_trans o7 hI.f.size
  have HOWN := Lib.hid hI.own
  have HZC := Lib.hid (show ∀ u, (zeroValue 45).run Tryz.prog u = .ok (.slice none 0 0) u from fun u => by kernel_rfl)
  clear hTC hnc hrc hfc hcm hah hok hI hS hlen hK hx hid
  have fa := (Fr.refl w.heap.size [] w).alloc (Nat.le_refl _) (.cells #[.int .i64 key, .int .i64 v.1, .int .i64 v.2] 56)
  have BR := Lib.hid (Blk.new w 56 #[.int .i64 key, .int .i64 v.1, .int .i64 v.2])
  have D1 := Lib.hid (HD.out.mv fa)
  have CT1 := Lib.hid (HCT.out.keep fa)
  obtain ⟨LL, hLL⟩ : ∃ LL, LL = gf :: gk :: gm :: (Value.slice A n c).ownBlock.toList := ⟨_, rfl⟩
  have HLm := Lib.hid (show ∀ q, q ∈ LL ↔ (q = gf ∨ q = gk ∨ q = gm ∨ (Value.slice A n c).ownBlock = some q) from fun q => by rw [hLL]; simp)
  unfold PutOut
  rw [← hLL]
  have F1 := Lib.hid (fa.mono (B' := w.heap.size) (L' := LL) (Nat.le_refl _) (by simp))
  have hsz1 : w.heap.size ≤ (w.alloc (.cells #[.int .i64 key, .int .i64 v.1, .int .i64 v.2] 56)).heap.size := fa.size
  have HB := Lib.hid (fun (wx : World) (F : Fr w.heap.size LL w wx) => (show Fr b0 [gf, gk, gm] w3 wx from HF3.out.trans (F.mono (B' := b0) (L' := [gf, gk, gm]) hb4 (fun q hq hlt => by
    rcases (HLm.out q).1 hq with e | e | e | e
    · simp [e]
    · simp [e]
    · simp [e]
    · have := (HOWN.out q e).1; omega))))
  clear fa HD HCT hLL
  go_enter Tryz.func59, Tryz.ntmps59
  go_upto_region 1 with fail
  generalize w.alloc (.cells #[.int .i64 key, .int .i64 v.1, .int .i64 v.2] 56) = w1 at *
  obtain ⟨gr, hgre⟩ : ∃ g, g = w.heap.size := ⟨_, rfl⟩
  rw [← hgre] at BR F1 hb4 hsz1 HB ⊢
  have HGR := Lib.hid hgre
  have hgrL : gr ∉ LL := fun h => by
    rcases (HLm.out gr).1 h with e | e | e | e
    · omega
    · omega
    · omega
    · have := (HOWN.out gr e).2; omega
  clear hgre
  have hgr1 : gr < w1.heap.size := BR.out.lt
  have q1 : w1.cell? ⟨gf, 1, none⟩ = some (.map (some gc)) := D1.out.blk.cell 1
  have hlk := (HSS.out.c.fr (HB.out w1 F1.out) (by omega) (by simp; omega)).look Tryz.underlying84 HZC.out id
  rw [HTC.out] at hlk
  simp only [Option.getD_some] at hlk
  go_wp2_with fail
  go_loopg [7, 15] nc (fun g s7 s15 wr => ∃ (j : Nat) (A' : Option Addr) (n' c' : Nat), j ≤ nc ∧ g = nc - j ∧ s15 = .int .i64 j ∧ (s7 = undef ∨ ∃ a : Int, s7 = .int .i64 a) ∧ RowKit.Hid (FlD b0 wr gf gn gc gk gt ((K.take j).foldl (fun s c => cm c s) S).C ((K.take j).foldl (fun s c => cm c s) S).out A' n' c') ∧ RowKit.Hid (CT wr gt gm ((K.take j).foldl (fun s c => cm c s) S).T ∧ TOk ((K.take j).foldl (fun s c => cm c s) S).T) ∧ RowKit.Hid (∀ q, (Value.slice A' n' c').ownBlock = some q → (Value.slice A n c).ownBlock = some q ∨ w1.heap.size ≤ q) ∧ RowKit.Hid (Fr w1.heap.size LL w1 wr))
  case atStart => exact ⟨0, A, n, c, Nat.zero_le _, rfl, rfl, .inl rfl, D1, Lib.hid ⟨CT1.out, HTO.out⟩, Lib.hid (fun q hq => .inl hq), Lib.hid (Fr.refl _ _ _)⟩
  case round =>
    clear D1 CT1 q1 hlk
    obtain ⟨j, A', n', c', hj, rfl, rfl, h7, D, CTJ, HO, F⟩ := hrel
    have hsz := F.out.size
    have FW := Lib.hid (F1.out.trans (F.out.mono (B' := gr) (L' := LL) (by omega) (fun q hq _ => hq)))
    by_cases hjn : j < nc
    · have hji : (j : Int) < (nc : Int) := by omega
      have hj0 : (0 : Int) ≤ (j : Int) := by omega
      obtain ⟨u, hu⟩ : ∃ u, K[j]? = some u := ⟨_, List.getElem?_eq_getElem (by rw [← HNC.out]; exact hjn)⟩
      obtain ⟨b5, o5', u5, rfl, hb5', hu5, hc5⟩ := (HRC.out wr (HB.out wr FW.out)).one hjn
      rw [List.getElem?_map, hu] at hu5
      simp at hu5
      subst hu5
      obtain ⟨SJ, hSJ⟩ : ∃ s, s = (K.take j).foldl (fun s c => cm c s) S := ⟨_, rfl⟩
      rw [← hSJ] at D CTJ
      have HTK := Lib.hid (show (K.take (j + 1)).foldl (fun s c => cm c s) S = cm u SJ by rw [List.take_add_one, hu, List.foldl_append, hSJ]; rfl)
      have hum := List.mem_of_getElem? hu
      have HLJ := Lib.hid (show (cm u SJ).out.length ≤ 6000000000 by
        rw [← HTK.out]
        refine Nat.le_trans (Ahead.len ?_) HLEN.out
        conv => rhs; rw [← List.take_append_drop (j + 1) K, List.foldl_append]
        exact foldl_ahead _ (fun s c => HAH.out c s) _ _)
      have HC := Lib.hid (HCM.out u hum SJ A' n' c' wr ⟨HI.out.k, HI.out.v, CTJ.out.2, D.out, CTJ.out.1, HB.out wr FW.out⟩ HLJ.out)
      have HTJ := Lib.hid (HOK.out u hum SJ CTJ.out.2)
      have BRr := BR.out.fr F.out hgr1 hgrL
      have r0 := BRr.cell 0
      have r1 := BRr.cell 1
      have r2 := BRr.cell 2
      simp at r0 r1 r2
      clear hu hum BRr hSJ D CTJ
      go_wp2_with fail
      refine HC.out.mono ?_
      rintro e w6 ⟨rfl, A6, n6, c6, d6, o6', ct6, f6⟩
      have D6 := Lib.hid d6
      have CT6 := Lib.hid (And.intro ct6 HTJ.out)
      have HO6 := Lib.hid (show ∀ q, (Value.slice A6 n6 c6).ownBlock = some q → (Value.slice A n c).ownBlock = some q ∨ w1.heap.size ≤ q from fun q hq => by
        rcases o6' q hq with h | h
        · exact HO.out q h
        · exact .inr (by omega))
      have F6 := Lib.hid (F.out.trans (f6.mono (B' := w1.heap.size) (L' := LL) hsz (fun q hq hlt => by
        simp at hq
        rcases hq with e | e | e | e
        · exact (HLm.out q).2 (.inl e)
        · exact (HLm.out q).2 (.inr (.inl e))
        · exact (HLm.out q).2 (.inr (.inr (.inl e)))
        · rcases HO.out q e with h | h
          · exact (HLm.out q).2 (.inr (.inr (.inr h)))
          · omega)))
      rw [← HTK.out] at D6 CT6
      clear d6 o6' ct6 f6 HC HTJ F HO FW r0 r1 r2
      go_wp2_with fail
      go_roundg (nc - (j + 1))
      case measure => omega
      case rel => exact ⟨j + 1, A6, n6, c6, by omega, rfl, by go_num, .inr ⟨_, rfl⟩, D6, CT6, HO6, F6⟩
    · obtain rfl : nc = j := by omega
      have hT : K.take nc = K := List.take_of_length_le (by rw [HNC.out]; exact Nat.le_refl _)
      rw [hT] at D CTJ
      clear hT
      go_wp2_with fail
      have h2 : ∀ q, (Value.slice A' n' c').ownBlock = some q → (Value.slice A n c).ownBlock = some q ∨ gr ≤ q := fun q hq => by
        rcases HO.out q hq with h | h
        · exact .inl h
        · exact .inr (by omega)
      go_end0
      exact ⟨rfl, A', n', c', D.out, by rw [← HGR.out]; exact h2, CTJ.out.1, by rw [← HGR.out]; exact FW.out⟩
/-- put, of any right graph. -/
theorem put_any (b0 gf gn gc gk gt gm : Nat) (w3 : World) (L : List Nd) (TN TC : Int → Option Value) (hS : FlS b0 w3 gf gn gc gk gt gm L TN TC) (hR : RightG L) (r : Int → Nat) (D : Nat) (hr : ∀ n ∈ L, ∀ f ∈ n.fr, r f < r n.id) (hD : ∀ n ∈ L, r n.id < D) :
    ∀ (d : Nat) (x : Nd), x ∈ L → D ≤ d + r x.id → ∀ (key : Int) (v : Int × Int) (S : DS) (A : Option Addr) (n c : Nat) (w : World), PutIn b0 w3 gf gn gc gk gt gm key v S A n c w → (putD L d x.id key v S).out.length ≤ 6000000000 →
      Calls Tryz.prog 59 #[.pointer (some ⟨gf, 0, none⟩), .int .i64 x.id, .agg #[.int .i64 key, .int .i64 v.1, .int .i64 v.2]] w (PutOut b0 gf gn gc gk gt gm (putD L d x.id key v S) A n c w)
  | 0, x, hx, hd, key, v, S, A, n, c, w, hI, hlen => by
    have := hD x hx
    omega
  | d + 1, x, hx, hd, key, v, S, A, n, c, w, hI, hlen => by
    refine put_step b0 gf gn gc gk gt gm w3 L TN TC hS hR (fun c s => comeD L (putD L d) x.id c key v s) x hx key v (fun c S => come_ahead (put_ahead L d) _ _ _ _ _) (fun c hc S hT => come_ok hR hc hI.k hI.v hT) ?_ S A n c w hI hlen
    intro c' hc S' A' n' cc w' hI' hlen'
    obtain ⟨y, hy, rfl, hf, h0, hfx⟩ := child_node hR hc
    by_cases h2 : y.kind = 2
    · exact come_snk b0 gf gn gc gk gt gm w3 L TN TC hS hR (putD L d) y hy h2 x.id key v S' A' n' cc w' hI' hlen'
    · refine come_op b0 gf gn gc gk gt gm w3 L TN TC hS hR (putD L d) (put_ahead L d) y hy h2 h0 (fun key v S hk hv hT => put_ok hR d y.id key v S hk hv hT) ?_ x.id key v S' A' n' cc w' hI' hlen'
      intro key v S A n c w hI hlen
      have := hr y hy x.id hfx
      exact put_any b0 gf gn gc gk gt gm w3 L TN TC hS hR r D hr hD d y hy (by omega) key v S A n c w hI hlen
end Go.Proofs.YthfibggbipkmfaaGreat
namespace Go.Proofs.YthfibggbipkmfaaGreat
open Go.RowKit Go.Fb
set_option linter.unusedVariables false
def cntL (C : Int → Option Int) (K : List Int) : Int → Option Int := K.foldl cntU C
theorem cntL_snoc (C : Int → Option Int) (K : List Int) (x : Int) : cntL C (K ++ [x]) = cntU (cntL C K) x := by unfold cntL; rw [List.foldl_append]; rfl
/-- Is a node a sink that the flow knows? -/
def SnkAt (TN : Int → Option Value) (c : Int) : Prop := ∃ x sf sp, TN c = some (.agg (ndA x sf sp)) ∧ SlN (x, sf, sp) ∧ x.kind = 2
def outP (id k re im : Int) (K : List Int) : List (Nat → Int) := K.map fun c => lnF c id k re im
set_option maxRecDepth 100000 in
set_option maxHeartbeats 8000000 in
theorem put_sinks (b0 gf gn gc gk gt : Nat) (TN TC : Int → Option Value) (C : Int → Option Int) (out : List (Nat → Int)) (A : Option Addr) (n c : Nat) (id : Int) (Ac : Option Addr) (nc cc : Nat) (K : List Int) (k re im : Int) (w : World)
    (hD : FlD b0 w gf gn gc gk gt C out A n c) (hN : IMap w gn TN) (hC : IMap w gc TC) (hx : TC id = some (.slice Ac nc cc)) (hnc : nc = K.length) (hrd : Reads w b0 1 Ac nc (K.map (Value.int .i64))) (hfr : Fresh (gf + 1) (.slice Ac nc cc)) (hK : ∀ c ∈ K, SnkAt TN c) (hb : gn < gc ∧ gc < gk ∧ gk < gf ∧ gf < b0 ∧ b0 ≤ w.heap.size) (hlen : n + nc ≤ 1000000) :
    Calls Tryz.prog 59 #[.pointer (some ⟨gf, 0, none⟩), .int .i64 id, .agg #[.int .i64 k, .int .i64 re, .int .i64 im]] w fun e w' => e = .returned (.tuple #[]) ∧ (∃ A' c', FlD b0 w' gf gn gc gk gt (cntL C K) (out ++ outP id k re im K) A' (n + nc) c' ∧ ∀ q, (Value.slice A' (n + nc) c').ownBlock = some q → (Value.slice A n c).ownBlock = some q ∨ w.heap.size ≤ q) ∧ Fr w.heap.size (gf :: gk :: (Value.slice A n c).ownBlock.toList) w w' := by
  obtain ⟨hb1, hb2, hb3, hb4, hb5⟩ := hb
  have HD := Lib.hid hD
  have HN := Lib.hid hN
  have HC := Lib.hid hC
  have HX := Lib.hid hx
  have HNC := Lib.hid hnc
  have HRD := Lib.hid hrd
  have HFR := Lib.hid hfr
  have HKS := Lib.hid hK
  have HZC := Lib.hid (show ∀ u, (zeroValue 45).run Tryz.prog u = .ok (.slice none 0 0) u from fun u => by kernel_rfl)
  clear hD hN hC hx hnc hrd hfr hK
  have fa := (Fr.refl w.heap.size [] w).alloc (Nat.le_refl _) (.cells #[.int .i64 k, .int .i64 re, .int .i64 im] 56)
  have BR := Lib.hid (Blk.new w 56 #[.int .i64 k, .int .i64 re, .int .i64 im])
  have D1 := Lib.hid (HD.out.mv fa)
  have N1 := Lib.hid (HN.out.fr fa HN.out.lt (by simp))
  have C1 := Lib.hid (HC.out.fr fa HC.out.lt (by simp))
  have R1 := Lib.hid (HRD.out.fr fa hb5 (by simp))
  have F1 := Lib.hid fa
  have hLo0 := fun q (hq : (Value.slice A n c).ownBlock = some q) => HD.out.row.lt q hq
  obtain ⟨LL, hLL⟩ : ∃ LL, LL = gf :: gk :: (Value.slice A n c).ownBlock.toList := ⟨_, rfl⟩
  have hLm : ∀ q, q ∈ LL → q = gf ∨ q = gk ∨ (Value.slice A n c).ownBlock = some q := fun q hq => by
    rw [hLL] at hq
    simpa using hq
  have hLi : ∀ q, q = gf ∨ q = gk ∨ (Value.slice A n c).ownBlock = some q → q ∈ LL := fun q hq => by
    rw [hLL]
    simpa using hq
  rw [← hLL]
  have HLm := Lib.hid hLm
  have HLi := Lib.hid hLi
  have HLo := Lib.hid hLo0
  clear fa HD HN HC HRD hLL hLm hLi hLo0
  go_enter Tryz.func59, Tryz.ntmps59
  go_upto_region 1 with fail
  generalize w.alloc (.cells #[.int .i64 k, .int .i64 re, .int .i64 im] 56) = w1 at *
  obtain ⟨gr, hgre⟩ : ∃ g, g = w.heap.size := ⟨_, rfl⟩
  rw [← hgre] at BR F1 hb5 ⊢
  have HGR := Lib.hid hgre
  clear hgre
  have hgr : gr < w1.heap.size := BR.out.lt
  have hgL : gr ∉ LL := fun h => by
    rcases HLm.out gr h with e | e | e
    · omega
    · omega
    · have := (HLo.out gr e).2
      have := HGR.out
      omega
  have hnL : gn ∉ LL := fun h => by
    rcases HLm.out gn h with e | e | e
    · omega
    · omega
    · have := (HLo.out gn e).1
      omega
  have q1 : w1.cell? ⟨gf, 1, none⟩ = some (.map (some gc)) := D1.out.blk.cell 1
  have hlk := C1.out.look Tryz.underlying84 HZC.out id
  rw [HX.out] at hlk
  simp only [Option.getD_some] at hlk
  go_wp2_with fail
  go_loopg [7, 15] nc (fun g s7 s15 wr => ∃ (j : Nat) (A' : Option Addr) (c' : Nat), j ≤ nc ∧ g = nc - j ∧ s15 = .int .i64 j ∧ (s7 = undef ∨ ∃ a : Int, s7 = .int .i64 a) ∧ RowKit.Hid (FlD b0 wr gf gn gc gk gt (cntL C (K.take j)) (out ++ outP id k re im (K.take j)) A' (n + j) c') ∧ RowKit.Hid (∀ q, (Value.slice A' (n + j) c').ownBlock = some q → (Value.slice A n c).ownBlock = some q ∨ w1.heap.size ≤ q) ∧ RowKit.Hid (Fr w1.heap.size LL w1 wr))
  case atStart => exact ⟨0, A, c, Nat.zero_le _, rfl, rfl, .inl rfl, Lib.hid (by simpa [outP, cntL] using D1.out), Lib.hid (fun q hq => .inl (by simpa using hq)), Lib.hid (Fr.refl _ _ _)⟩
  case round =>
    clear q1 hlk D1
    obtain ⟨j, A', c', hj, rfl, rfl, h7, D, HO, F⟩ := hrel
    have hsz := F.out.size
    by_cases hjn : j < nc
    · have hji : (j : Int) < (nc : Int) := by omega
      have hj0 : (0 : Int) ≤ (j : Int) := by omega
      obtain ⟨v, hv⟩ : ∃ v, K[j]? = some v := ⟨_, List.getElem?_eq_getElem (by rw [← HNC.out]; exact hjn)⟩
      obtain ⟨b5, o5, u5, rfl, hb5', hu5, hc5⟩ := (R1.out.frL (F.out.mono (B' := w1.heap.size) (L' := LL) (Nat.le_refl _) (fun q hq _ => hq)) (by omega) (fun hn ad ha hm => by
        have h1 := HFR.out _ _ _ rfl hn ad ha
        obtain ⟨b, off, e, hlt, _⟩ := R1.out.2 hn
        rw [ha] at e
        injection e with e
        subst e
        rcases HLm.out _ hm with e | e | e
        · omega
        · omega
        · have := (HLo.out _ e).1
          simp at this hlt
          omega)).one hjn
      rw [List.getElem?_map, hv] at hu5
      simp at hu5
      subst hu5
      have HTK := Lib.hid (show K.take (j + 1) = K.take j ++ [v] by rw [List.take_add_one, hv]; rfl)
      obtain ⟨x, sf, sp, hx1, hx2, hx3⟩ := HKS.out v (List.mem_of_getElem? hv)
      have HCM := Lib.hid (come_sink b0 gf gn gc gk gt TN (cntL C (K.take j)) (out ++ outP id k re im (K.take j)) A' (n + j) c' id v x sf sp k re im wr D.out (N1.out.fr F.out (by omega) hnL) hx1 hx2 hx3 ⟨by omega, hb3, hb4, by omega⟩ (by omega))
      have BRr := BR.out.fr F.out hgr hgL
      have r0 := BRr.cell 0
      have r1 := BRr.cell 1
      have r2 := BRr.cell 2
      simp at r0 r1 r2
      clear hv hx1 hx2 hx3 BRr
      go_wp2_with fail
      refine HCM.out.mono ?_
      rintro e w3 ⟨rfl, ⟨A3, c3, d3, o3⟩, f3⟩
      have D3 := Lib.hid (show FlD b0 w3 gf gn gc gk gt (cntL C (K.take (j + 1))) (out ++ outP id k re im (K.take (j + 1))) A3 (n + (j + 1)) c3 by
        rw [HTK.out, cntL_snoc]
        have e1 : outP id k re im (K.take j ++ [v]) = outP id k re im (K.take j) ++ [lnF v id k re im] := by unfold outP; rw [List.map_append]; rfl
        rw [e1, ← List.append_assoc]
        exact d3)
      have O3 := Lib.hid (show ∀ q, (Value.slice A3 (n + (j + 1)) c3).ownBlock = some q → (Value.slice A n c).ownBlock = some q ∨ w1.heap.size ≤ q from fun q hq => by
        rcases o3 q hq with h | h
        · exact HO.out q h
        · exact .inr (by omega))
      have F3 := Lib.hid (F.out.trans (f3.mono (B' := w1.heap.size) (L' := LL) hsz (fun q hq hlt => by
        simp at hq
        rcases hq with e | e | e
        · exact HLi.out q (.inl e)
        · exact HLi.out q (.inr (.inl e))
        · rcases HO.out q e with h | h
          · exact HLi.out q (.inr (.inr h))
          · omega)))
      clear d3 o3 f3 HCM D HO F r0 r1 r2
      go_wp2_with fail
      go_roundg (nc - (j + 1))
      case measure => omega
      case rel => exact ⟨j + 1, A3, c3, by omega, rfl, by go_num, .inr ⟨_, rfl⟩, D3, O3, F3⟩
    · obtain rfl : nc = j := by omega
      have hT : K.take nc = K := List.take_of_length_le (by rw [HNC.out]; exact Nat.le_refl _)
      rw [hT] at D
      clear hT
      go_wp2_with fail
      have h1 : ∃ A' c', FlD b0 wr gf gn gc gk gt (cntL C K) (out ++ outP id k re im K) A' (n + nc) c' ∧ ∀ q, (Value.slice A' (n + nc) c').ownBlock = some q → (Value.slice A n c).ownBlock = some q ∨ gr ≤ q := ⟨A', c', D.out, fun q hq => by
        rcases HO.out q hq with h | h
        · exact .inl h
        · exact .inr (by omega)⟩
      have h2 : Fr gr LL w wr := (F1.out.mono (B' := gr) (L' := LL) (by rw [HGR.out]; exact Nat.le_refl _) (by simp)).trans (F.out.mono (B' := gr) (L' := LL) (by omega) (fun q hq _ => hq))
      go_end0
      exact ⟨rfl, by rw [← HGR.out]; exact h1, by rw [← HGR.out]; exact h2⟩
end Go.Proofs.YthfibggbipkmfaaGreat
namespace Go.Proofs.YthfibggbipkmfaaGreat
open Go.RowKit Go.Fb
set_option linter.unusedVariables false
def recR (x : Nat → Int) : Bool := recB (x 0) (x 1) (x 2)
/-- The lines that records make. -/
def outR (K : List Int) (l : List (Nat → Int)) : List (Nat → Int) := l.flatMap fun x => outP 0 (x 0) (x 1) (x 2) K
theorem outR_snoc (K : List Int) (l : List (Nat → Int)) (x : Nat → Int) : outR K (l ++ [x]) = outR K l ++ outP 0 (x 0) (x 1) (x 2) K := by unfold outR; rw [List.flatMap_append]; simp
def FlowsOut (K : List Int) (l : List (Nat → Int)) (gt : Nat) (w : World) (e : Ending) (w' : World) : Prop :=
  (l.all recR = false ∧ e = .returned (.tuple #[.pointer none, .int .i64 1]) ∧ Fr w.heap.size [] w w') ∨
  (l.all recR = true ∧ ∃ b0 gf gn gc gk C A n c, e = .returned (.tuple #[.pointer (some ⟨gf, 0, none⟩), .int .i64 0]) ∧ FlD b0 w' gf gn gc gk gt C (outR K l) A n c ∧ w.heap.size ≤ b0 ∧ Fr w.heap.size [] w w')
set_option maxRecDepth 100000 in
set_option maxHeartbeats 8000000 in
theorem flows_any (gt : Nat) (A Ar : Option Addr) (c cr B n nr : Nat) (M : List Ndm) (l : List (Nat → Int)) (w : World) (h : Nds w B A n M) (hB : B ≤ w.heap.size) (hs : Small M) (hr : RightG (fstN M)) (hnr : nr = l.length) (hn : nr ≤ 1000) (hrd : Reads w B 3 Ar nr (cellsR l))
    (hK : ∀ c ∈ childN (fstN M) 0, ∃ x, findN (fstN M) c = some x ∧ x.kind = 2) :
    Calls Tryz.prog 32 #[.slice A n c, .pointer (some ⟨gt, 0, none⟩), .slice Ar nr cr] w (FlowsOut (childN (fstN M) 0) l gt w) := by
  obtain ⟨L, hL⟩ : ∃ L, L = fstN M := ⟨_, rfl⟩
  have HCK := Lib.hid (gcheck_any A c B n M w h hB hs)
  have HMD := Lib.hid (fun (wx : World) (hx : Fr w.heap.size [] w wx) => made_any gt A c B n M wx (h.frw hx hB (by simp)) (Nat.le_trans hB hx.size) hs hr)
  have HCF := Lib.hid (fun (wx : World) (hx : Fr w.heap.size [] w wx) => rccontains_any 56 #[] (fun x => !recR x) Ar cr B nr l wx (enters_of Tryz.func56 (by kernel_rfl) rfl) (fun x w' _ _ => by exact flows1_any x w') hnr (by omega) (hrd.fr hx hB (by simp)) (Nat.le_trans hB hx.size))
  rw [checkN_zero.2 hr] at HCK
  rw [← hL] at HMD hK ⊢
  have hr2 : RightG L := by rw [hL]; exact hr
  have HRG := Lib.hid hr2
  have HRD := Lib.hid hrd
  have HNR := Lib.hid hnr
  have HKS := Lib.hid hK
  obtain ⟨K, hKe⟩ : ∃ K, K = childN L 0 := ⟨_, rfl⟩
  have HKE := Lib.hid hKe
  rw [← hKe] at HKS ⊢
  obtain ⟨ab, hab⟩ : ∃ b, b = l.any (fun x => !recR x) := ⟨_, rfl⟩
  rw [← hab] at HCF
  have HAB := Lib.hid (show l.all recR = !ab by rw [hab, List.not_any_eq_all_not]; simp)
  have hK8 : K.length ≤ 8 := by
    rw [hKe]
    have h1 := kidsN_le L 0 []
    have h2 : (childN L 0).length = (kidsN L 0 []).length := (srt_perm _).length_eq
    have h3 := hr2.len
    simp at h1
    omega
  clear h hs hr hnr hrd hK hKe hab hL hr2
  go_enter Tryz.func32, Tryz.ntmps32
  go_wp2_with fail
  refine HCK.out.mono ?_
  rintro e w1 ⟨rfl, f1⟩
  have F1 := Lib.hid f1
  have HC1 := Lib.hid (HCF.out w1 f1)
  clear f1 HCK HCF
  go_wp2_with fail
  refine HC1.out.mono ?_
  rintro e w2 ⟨rfl, f2⟩
  have F2 := Lib.hid (F1.out.trans (f2.mono (B' := w.heap.size) (L' := []) F1.out.size (by simp)))
  have HM2 := Lib.hid (HMD.out w2 F2.out)
  clear f2 HC1 F1 HMD
  cases ab with
  | true =>
    go_wp2_with fail
    go_ret2
    exact .inl ⟨HAB.out, rfl, F2.out⟩
  | false => ?_
  go_wp2_with fail
  refine HM2.out.mono ?_
  rintro e w3 ⟨lo, gf, gn, gc, gk, M', TN, TC, TK, rfl, hb3, hfl, hgn, f3⟩
  have F3 := Lib.hid (F2.out.trans (f3.mono (B' := w.heap.size) (L' := []) F2.out.size (by simp)))
  obtain ⟨b0, hb0⟩ : ∃ b, b = w3.heap.size := ⟨_, rfl⟩
  obtain ⟨o1, o2, o3, o4, o5⟩ := And.intro hfl.o1 (And.intro hfl.o2 (And.intro hfl.o3 (And.intro hfl.o4 hfl.o5)))
  have hwgn : w.heap.size ≤ gn := Nat.le_trans F2.out.size hgn
  have h0 : ∃ m ∈ M', m.1.id = 0 := by
    have h1 : (0 : Int) ∈ idsN (fstN M') := by rw [hfl.nm]; exact ((normL_perm L).map (fun n : Nd => n.id)).mem_iff.2 HRG.out.zero
    obtain ⟨x, hx, e⟩ := List.mem_map.1 h1
    obtain ⟨m, hm, rfl⟩ := List.mem_map.1 hx
    exact ⟨m, hm, e⟩
  obtain ⟨m0, hm0, he0⟩ := h0
  obtain ⟨Ac, nc, cc, hc1, hc2, hc3, hc4⟩ := hfl.fm.cs m0 (by rw [List.take_length]; exact hm0)
  rw [he0] at hc1 hc2 hc3
  rw [← HKE.out] at hc2 hc3
  have HSN := Lib.hid (show ∀ c ∈ K, SnkAt TN c from fun c hc => by
    obtain ⟨x, hx, hk⟩ := HKS.out c hc
    have hxm : x ∈ fstN M' := by rw [hfl.nm]; exact (normL_perm L).mem_iff.2 (findN_mem hx)
    obtain ⟨m, hm, rfl⟩ := List.mem_map.1 hxm
    obtain ⟨⟨⟨A1, c1, e1, _⟩, ⟨A2, c2, e2, _⟩⟩, _⟩ := hfl.inn m hm
    have h5 := hfl.fm.ns m (by rw [List.take_length]; exact hm)
    rw [findN_id hx] at h5
    exact ⟨m.1, m.2.1, m.2.2, h5, ⟨A1, _, c1, A2, _, c2, e1, e2⟩, hk⟩)
  have HIN := Lib.hid hfl.fm.n
  have HIC := Lib.hid hfl.fm.c
  have HX0 := Lib.hid hc1
  have HNC := Lib.hid hc2
  have HRC := Lib.hid hc3
  have HFC := Lib.hid (fresh_le hc4 (show gf + 1 ≤ lo by omega))
  obtain ⟨C0, hC0⟩ : ∃ C : Int → Option Int, TK = cntT C := by
    refine ⟨fun x => match TK x with | none => none | some _ => some 0, ?_⟩
    funext x
    unfold cntT
    rcases hfl.fm.ki x with e | e
    · simp [e]
    · simp [e]
  have HD3 := Lib.hid (FlD.mk (b0 := b0) (gn := gn) (gc := gc) (gt := gt) (out := []) (A := none) (n := 0) (c := 0) rfl hb3 (by rw [← hC0]; exact hfl.fm.q) (World.ownsRow_nil _ _ _ _))
  rw [← hb0] at HRC
  have hb3s : b0 ≤ w3.heap.size := by omega
  have hb3t : w3.heap.size ≤ b0 := by omega
  have hnc8 : nc ≤ 8 := by rw [hc2]; exact hK8
  have HB0 := Lib.hid hb0
  have HZI := Lib.hid (show ∀ u, (zeroValue 3).run Tryz.prog u = .ok (.int .i64 0) u from fun u => by kernel_rfl)
  clear hfl hc1 hc2 hc3 hc4 f3 HM2 F2 hb3 hC0 hm0 he0 hb0
  go_wp2_with fail
  go_loopg [10, 27] nr (fun g s10 s27 wr => ∃ (k : Nat) (C : Int → Option Int) (A' : Option Addr) (n' c' : Nat), k ≤ nr ∧ g = nr - k ∧ s27 = .int .i64 k ∧ (s10 = undef ∨ ∃ a, s10 = .pointer a) ∧ n' ≤ 8 * k ∧ RowKit.Hid (FlD b0 wr gf gn gc gk gt C (outR K (l.take k)) A' n' c') ∧ RowKit.Hid (Fr b0 [gf, gk] w3 wr))
  case atStart => exact ⟨0, C0, none, 0, 0, Nat.zero_le _, rfl, rfl, .inl rfl, by omega, HD3, Lib.hid (Fr.refl _ _ _)⟩
  case round =>
    clear HD3
    obtain ⟨k, C, A', n', c', hk, rfl, rfl, h10, hn8, D, F⟩ := hrel
    have hszr := F.out.size
    have FW := Lib.hid (F3.out.trans (F.out.mono (B' := w.heap.size) (L' := []) (by omega) (by intro q hq hlt; simp at hq; omega)))
    by_cases hkn : k < nr
    · have hki : (k : Int) < (nr : Int) := by omega
      have hk0 : (0 : Int) ≤ (k : Int) := by omega
      obtain ⟨x, hx⟩ : ∃ x, l[k]? = some x := ⟨_, List.getElem?_eq_getElem (by rw [← HNR.out]; exact hkn)⟩
      have hrl := HRD.out.fr FW.out hB (by simp)
      rw [HNR.out] at hrl
      obtain ⟨b1, of1, rfl, hb1, hc1⟩ := reads_rec hrl hx
      have p0 := hc1 0 (by omega)
      have p1 := hc1 1 (by omega)
      have p2 := hc1 2 (by omega)
      simp only [Nat.add_zero, ← Nat.add_assoc] at p0 p1 p2
      have HTK := Lib.hid (show l.take (k + 1) = l.take k ++ [x] by rw [List.take_add_one, hx]; rfl)
      clear hc1 hrl hx hb1
      have fa := (Fr.refl wr.heap.size [] wr).alloc (Nat.le_refl _) (.cells #[.int .i64 (x 0), .int .i64 (x 1), .int .i64 (x 2)] 56)
      have BX := Lib.hid (Blk.new wr 56 #[.int .i64 (x 0), .int .i64 (x 1), .int .i64 (x 2)])
      have DA := Lib.hid (D.out.mv fa)
      have FA := Lib.hid (F.out.trans (fa.mono (B' := b0) (L' := [gf, gk]) (by omega) (by simp)))
      clear fa D F FW
      go_upto_region 9 with fail
      clear p0 p1 p2
      generalize wr.alloc (.cells #[.int .i64 (x 0), .int .i64 (x 1), .int .i64 (x 2)] 56) = wa at *
      obtain ⟨gx, hgx⟩ : ∃ g, g = wr.heap.size := ⟨_, rfl⟩
      rw [← hgx] at BX ⊢
      have hgx0 : b0 ≤ gx := by omega
      clear hgx hszr
      have q4 : wa.cell? ⟨gf, 4, none⟩ = some (.map (some gk)) := DA.out.blk.cell 4
      have hlc := DA.out.cnt.look Tryz.underlying34 HZI.out 0
      rw [cntT_get] at hlc
      obtain ⟨v, hv⟩ : ∃ v, v = (C 0).getD 0 := ⟨_, rfl⟩
      rw [← hv] at hlc
      obtain ⟨w5, hup, hm5, f5, hs5⟩ := DA.out.cnt.upd Tryz.underlying34 0 (.int .i64 (wrap64 (v + 1)))
      rw [hv, cntU_T] at hm5
      have hltx : gx < wa.heap.size := BX.out.lt
      have BX5 := Lib.hid (BX.out.fr f5 BX.out.lt (by simp; omega))
      have D5 := Lib.hid (show FlD b0 w5 gf gn gc gk gt (cntU C 0) (outR K (l.take k)) A' n' c' from ⟨DA.out.num, DA.out.blk.fr f5 DA.out.blk.lt (by simp; omega), hm5, ownsRow_fr DA.out.row f5 (fun q hq => ⟨(DA.out.row.lt q hq).2, by have := (DA.out.row.lt q hq).1; simp; omega⟩)⟩)
      have F5 := Lib.hid (FA.out.trans (f5.mono (B' := b0) (L' := [gf, gk]) (by omega) (by simp)))
      have hb5 : b0 ≤ w5.heap.size := by omega
      clear hm5 f5 hs5 hv DA FA BX
      go_upto_region 10 with fail
      clear q4 hlc hup
      have HPT := Lib.hid (put_sinks b0 gf gn gc gk gt TN TC (cntU C 0) (outR K (l.take k)) A' n' c' 0 Ac nc cc K (x 0) (x 1) (x 2) w5 D5.out (HIN.out.fr F5.out (by omega) (by simp; omega)) (HIC.out.fr F5.out (by omega) (by simp; omega)) HX0.out HNC.out (HRC.out.frL F5.out (Nat.le_refl _) (fun hn ad ha hm2 => by
        have h1 := HFC.out _ _ _ rfl hn ad ha
        simp at hm2
        omega)) HFC.out HSN.out ⟨o1, o2, o3, by omega, hb5⟩ (by omega))
      have x0 := BX5.out.cell 0
      have x1 := BX5.out.cell 1
      have x2 := BX5.out.cell 2
      simp at x0 x1 x2
      go_wp2_with fail
      refine HPT.out.mono ?_
      rintro e w6 ⟨rfl, ⟨A6, c6, d6, _⟩, f6⟩
      have D6 := Lib.hid (show FlD b0 w6 gf gn gc gk gt (cntL (cntU C 0) K) (outR K (l.take (k + 1))) A6 (n' + nc) c6 by rw [HTK.out, outR_snoc]; exact d6)
      have F6 := Lib.hid (F5.out.trans (f6.mono (B' := b0) (L' := [gf, gk]) hb5 (fun q hq hlt => by
        simp at hq
        rcases hq with e | e | e
        · simp [e]
        · simp [e]
        · have := (D5.out.row.lt q e).1
          omega)))
      clear d6 f6 HPT D5 F5 x0 x1 x2
      go_wp2_with fail
      go_roundg (nr - (k + 1))
      case measure => omega
      case rel => exact ⟨k + 1, _, A6, n' + nc, c6, by omega, rfl, by go_num, .inr ⟨_, rfl⟩, by omega, D6, F6⟩
    · obtain rfl : nr = k := by omega
      have hT : l.take nr = l := List.take_of_length_le (by rw [HNR.out]; exact Nat.le_refl _)
      rw [hT] at D
      clear hT
      go_wp2_with fail
      go_ret2
      exact .inr ⟨HAB.out, b0, gf, gn, gc, gk, C, A', n', c', rfl, D.out, by omega, FW.out⟩
def DRunOut (K : List Int) (l : List (Nat → Int)) (w : World) (e : Ending) (w' : World) : Prop :=
  (l.all recR = false ∧ e = .returned (.tuple #[.slice none 0 0, .int .i64 1]) ∧ Fr w.heap.size [] w w') ∨
  (l.all recR = true ∧ ∃ A n c, n = (outR K l).length ∧ e = .returned (.tuple #[.slice A n c, .int .i64 0]) ∧ Reads w' w'.heap.size 5 A n (cellsLn (outR K l)) ∧ n ≤ c ∧ Fr w.heap.size [] w w')
set_option maxRecDepth 100000 in
set_option maxHeartbeats 4000000 in
theorem drun_any (gt : Nat) (A Ar : Option Addr) (c cr B n nr : Nat) (M : List Ndm) (l : List (Nat → Int)) (w : World) (h : Nds w B A n M) (hB : B ≤ w.heap.size) (hs : Small M) (hr : RightG (fstN M)) (hnr : nr = l.length) (hn : nr ≤ 1000) (hrd : Reads w B 3 Ar nr (cellsR l))
    (hK : ∀ c ∈ childN (fstN M) 0, ∃ x, findN (fstN M) c = some x ∧ x.kind = 2) :
    Calls Tryz.prog 13 #[.slice A n c, .pointer (some ⟨gt, 0, none⟩), .slice Ar nr cr] w (DRunOut (childN (fstN M) 0) l w) := by
  have H := Lib.hid (flows_any gt A Ar c cr B n nr M l w h hB hs hr hnr hn hrd hK)
  obtain ⟨K, hKe⟩ : ∃ K, K = childN (fstN M) 0 := ⟨_, rfl⟩
  rw [← hKe] at H ⊢
  clear h hs hr hnr hrd hK hKe
  go_enter Tryz.func13, Tryz.ntmps13
  go_wp2_with fail
  refine H.out.mono ?_
  rintro e w1 (⟨ha, rfl, f1⟩ | ⟨ha, b0, gf, gn, gc, gk, C, A1, n1, c1, rfl, hd, _, f1⟩)
  · have F1 := Lib.hid f1
    have HA := Lib.hid ha
    clear f1 ha H
    go_wp2_with fail
    go_ret2
    exact .inl ⟨HA.out, rfl, F1.out⟩
  · have F1 := Lib.hid f1
    have HA := Lib.hid ha
    have HD := Lib.hid hd
    have q3 : w1.cell? ⟨gf, 3, none⟩ = some (.slice A1 n1 c1) := hd.blk.cell 3
    clear f1 ha H hd
    go_wp2_with fail
    go_ret2
    have hcap : n1 ≤ c1 := by obtain ⟨_, _, hx, _, hy, _⟩ := ownsRow_shape HD.out.row; injection hx with _ _ hx; omega
    exact .inr ⟨HA.out, A1, n1, c1, HD.out.num, rfl, Reads.of_own HD.out.row, hcap, F1.out⟩
end Go.Proofs.YthfibggbipkmfaaGreat
namespace Go.Proofs.YthfibggbipkmfaaGreat
open Go.RowKit Go.Fb
def parP (p : Int) : Int := min (max p 1) 3
theorem parP_in (p : Int) : 1 ≤ parP p ∧ parP p ≤ 3 := by unfold parP; omega
def rtk (k : Nat) (p : Int) (g : Nat) : Int := if g < k then (g : Int) % p else 0
def pasN (k : Nat) (p : Int) : Nd := ⟨0, 0, p, [], [], rtk k p⟩
def pasS (p : Int) : Nd := ⟨1, 2, p, [0], [], rtk 8 p⟩
/-- A graph that lets all pass. -/
def passL (p : Int) : List Nd := [pasN 8 (parP p), pasS (parP p)]
theorem pas_set (p : Int) (k : Nat) (hk : k < 8) : (ndA (pasN k p) (.slice none 0 0) (.slice none 0 0)).setIfInBounds (5 + k) (.int .i64 ((k : Int) % p)) = ndA (pasN (k + 1) p) (.slice none 0 0) (.slice none 0 0) := by
  rcases (show k = 0 ∨ k = 1 ∨ k = 2 ∨ k = 3 ∨ k = 4 ∨ k = 5 ∨ k = 6 ∨ k = 7 by omega) with rfl | rfl | rfl | rfl | rfl | rfl | rfl | rfl <;> simp [ndA, pasN, rtk]
theorem pas_get (p : Int) (k : Nat) (hk : k < 8) : (ndA (pasN k p) (.slice none 0 0) (.slice none 0 0))[5 + k]? = some (.int .i64 0) := by
  rcases (show k = 0 ∨ k = 1 ∨ k = 2 ∨ k = 3 ∨ k = 4 ∨ k = 5 ∨ k = 6 ∨ k = 7 by omega) with rfl | rfl | rfl | rfl | rfl | rfl | rfl | rfl <;> simp [ndA, pasN, rtk]
theorem owns_blk {w : World} {g base e size n : Nat} {cs : Array Value} (h : Blk w g e cs) (hs : cs.size = n * size) (hb : base ≤ g) (hn : n ≤ maxLen) : w.ownsRow base e size (.slice (some ⟨g, 0, none⟩) n n) n cs.toList := by
  refine ⟨by simpa using hs, .inr ⟨g, n, cs, rfl, hb, h, Nat.le_refl _, hn, hs, ?_⟩⟩
  exact List.take_of_length_le (by simp [hs])
def PassOut (p : Int) (w : World) (e : Ending) (w' : World) : Prop :=
  ∃ A c M, e = .returned (.slice A 2 c) ∧ Nmd w.heap.size w' A 2 c M ∧ fstN M = passL p ∧ Fr w.heap.size [] w w'
set_option maxRecDepth 100000 in
set_option maxHeartbeats 4000000 in
theorem pass_any (par : Int) (w : World) : Calls Tryz.prog 27 #[.int .i64 par] w (PassOut par w) := by
  obtain ⟨p, hp⟩ : ∃ p, p = min (max par 1) 3 := ⟨_, rfl⟩
  have HP := Lib.hid (show p = parP par from hp)
  have hp1 : 1 ≤ p := by omega
  have hp3 : p ≤ 3 := by omega
  have BA0 := Blk.new w 49 (ndA (pasN 0 p) (.slice none 0 0) (.slice none 0 0))
  have F0 := (Fr.refl w.heap.size [] w).alloc (Nat.le_refl _) (.cells (ndA (pasN 0 p) (.slice none 0 0) (.slice none 0 0)) 49)
  have HB := Lib.hid BA0
  have HF := Lib.hid F0
  clear BA0 F0
  go_enter Tryz.func27, Tryz.ntmps27
  go_wp2_with fail
  rw [← hp]
  have HB1 : RowKit.Hid (Blk (w.alloc (.cells #[.int .i64 0, .int .i64 0, .slice none 0 0, .slice none 0 0, .int .i64 p, .int .i64 0, .int .i64 0, .int .i64 0, .int .i64 0, .int .i64 0, .int .i64 0, .int .i64 0, .int .i64 0] 49)) w.heap.size 49 (ndA (pasN 0 p) (.slice none 0 0) (.slice none 0 0))) := HB
  have HF1 : RowKit.Hid (Fr w.heap.size [] w (w.alloc (.cells #[.int .i64 0, .int .i64 0, .slice none 0 0, .slice none 0 0, .int .i64 p, .int .i64 0, .int .i64 0, .int .i64 0, .int .i64 0, .int .i64 0, .int .i64 0, .int .i64 0, .int .i64 0] 49))) := HF
  clear hp HB HF
  generalize w.alloc (.cells #[.int .i64 0, .int .i64 0, .slice none 0 0, .slice none 0 0, .int .i64 p, .int .i64 0, .int .i64 0, .int .i64 0, .int .i64 0, .int .i64 0, .int .i64 0, .int .i64 0, .int .i64 0] 49) = w1 at *
  go_loopg [4, 11] 8 (fun g s4 s11 wr => ∃ k : Nat, k ≤ 8 ∧ g = 8 - k ∧ s11 = .int .i64 k ∧ RowKit.Hid (Blk wr w.heap.size 49 (ndA (pasN k p) (.slice none 0 0) (.slice none 0 0))) ∧ RowKit.Hid (Fr w.heap.size [] w wr))
  case atStart => exact ⟨0, Nat.zero_le _, rfl, rfl, HB1, HF1⟩
  case round =>
    obtain ⟨k, hk, rfl, rfl, HB, HF⟩ := hrel
    by_cases hk8 : k < 8
    · have hki : (k : Int) < 8 := by omega
      have hk0 : (0 : Int) ≤ (k : Int) := by omega
      have c5 := HB.out.cell (5 + k)
      rw [pas_get p k hk8] at c5
      have z5 := HB.out.frozen (5 + k)
      have HB2 := Lib.hid (HB.out.set_ (5 + k) (.int .i64 ((k : Int) % p)))
      rw [pas_set p k hk8] at HB2
      have HF2 := Lib.hid (HF.out.setCell (p := ⟨w.heap.size, 5 + k, none⟩) (.inl (Nat.le_refl _)) (.int .i64 ((k : Int) % p)))
      have hmod : (k : Int).tmod p = (k : Int) % p := Int.tmod_eq_emod_of_nonneg hk0
      go_wp2_with fail
      go_roundg (8 - (k + 1))
      case measure => omega
      case rel => exact ⟨k + 1, by omega, rfl, by go_num, HB2, HF2⟩
    · obtain rfl : k = 8 := by omega
      obtain ⟨x, hx⟩ : ∃ x, x = pasN 8 p := ⟨_, rfl⟩
      have HX := Lib.hid hx
      rw [← hx] at HB
      clear hx
      have q0 := HB.out.cell 0
      have q1 := HB.out.cell 1
      have q2 := HB.out.cell 2
      have q3 := HB.out.cell 3
      have q4 := HB.out.cell 4
      have q5 := HB.out.cell 5
      have q6 := HB.out.cell 6
      have q7 := HB.out.cell 7
      have q8 := HB.out.cell 8
      have q9 := HB.out.cell 9
      have q10 := HB.out.cell 10
      have q11 := HB.out.cell 11
      have q12 := HB.out.cell 12
      simp at q0 q1 q2 q3 q4 q5 q6 q7 q8 q9 q10 q11 q12
      have BA := Lib.hid (HB.out.alloc (.cells (ndA x (.slice none 0 0) (.slice none 0 0)) 49))
      have BB := Lib.hid (Blk.new wr 49 (ndA x (.slice none 0 0) (.slice none 0 0)))
      have F2 := Lib.hid (HF.out.alloc HF.out.size (.cells (ndA x (.slice none 0 0) (.slice none 0 0)) 49))
      have hlt := HF.out.size
      have hga := HB.out.lt
      clear HB HF
      go_upto_region 9 with fail
      clear q0 q1 q2 q3 q4 q5 q6 q7 q8 q9 q10 q11 q12
      generalize wr.alloc (.cells (ndA x (.slice none 0 0) (.slice none 0 0)) 49) = w2 at *
      generalize wr.heap.size = gb at *
      have hgb := BB.out.lt
      have b0 := BB.out.cell 0
      have b1 := BB.out.cell 1
      have b2 := BB.out.cell 2
      have z0 := BB.out.frozen 0
      have z1 := BB.out.frozen 1
      have z2 := BB.out.frozen 2
      simp at b0 b1 b2
      go_upto_region 10 with fail
      obtain ⟨y, hy⟩ : ∃ y : Nd, y = ⟨1, 2, x.par, [0], [], x.rt⟩ := ⟨_, rfl⟩
      have BA3 := Lib.hid ((((BA.out.far (p := ⟨gb, 0, none⟩) (by simp; omega) (.int .i64 1)).far (p := ⟨gb, 1, none⟩) (by simp; omega) (.int .i64 2)).far (p := ⟨gb, 2, none⟩) (by simp; omega) (.slice (some ⟨w2.heap.size, 0, none⟩) 1 1)).alloc (.cells #[.int .i64 0] 3))
      have BB3 := Lib.hid (show Blk ((((w2.setCell ⟨gb, 0, none⟩ (.int .i64 1)).setCell ⟨gb, 1, none⟩ (.int .i64 2)).setCell ⟨gb, 2, none⟩ (.slice (some ⟨w2.heap.size, 0, none⟩) 1 1)).alloc (.cells #[.int .i64 0] 3)) gb 49 (ndA y (.slice (some ⟨w2.heap.size, 0, none⟩) 1 1) (.slice none 0 0)) by
        have := (((BB.out.set_ 0 (.int .i64 1)).set_ 1 (.int .i64 2)).set_ 2 (.slice (some ⟨w2.heap.size, 0, none⟩) 1 1)).alloc (.cells #[.int .i64 0] 3)
        rw [hy]
        simpa using this)
      have BC0 := Blk.new (((w2.setCell ⟨gb, 0, none⟩ (.int .i64 1)).setCell ⟨gb, 1, none⟩ (.int .i64 2)).setCell ⟨gb, 2, none⟩ (.slice (some ⟨w2.heap.size, 0, none⟩) 1 1)) 3 #[.int .i64 0]
      rw [show (((w2.setCell ⟨gb, 0, none⟩ (.int .i64 1)).setCell ⟨gb, 1, none⟩ (.int .i64 2)).setCell ⟨gb, 2, none⟩ (.slice (some ⟨w2.heap.size, 0, none⟩) 1 1)).heap.size = w2.heap.size by simp [World.setCell]] at BC0
      have BC3 := Lib.hid BC0
      have F3 := Lib.hid ((((F2.out.setCell (p := ⟨gb, 0, none⟩) (.inl hlt) (.int .i64 1)).setCell (p := ⟨gb, 1, none⟩) (.inl hlt) (.int .i64 2)).setCell (p := ⟨gb, 2, none⟩) (.inl hlt) (.slice (some ⟨w2.heap.size, 0, none⟩) 1 1)).alloc (by have := F2.out.size; simp [World.setCell]; exact this) (.cells #[.int .i64 0] 3))
      have HY := Lib.hid hy
      clear BA BB F2 b0 b1 b2 z0 z1 z2 BC0 hy
      generalize (((w2.setCell ⟨gb, 0, none⟩ (.int .i64 1)).setCell ⟨gb, 1, none⟩ (.int .i64 2)).setCell ⟨gb, 2, none⟩ (.slice (some ⟨w2.heap.size, 0, none⟩) 1 1)).alloc (.cells #[.int .i64 0] 3) = w3 at *
      generalize w2.heap.size = g2 at *
      have a0 := BA3.out.cell 0
      have a1 := BA3.out.cell 1
      have a2 := BA3.out.cell 2
      have a3 := BA3.out.cell 3
      have a4 := BA3.out.cell 4
      have a5 := BA3.out.cell 5
      have a6 := BA3.out.cell 6
      have a7 := BA3.out.cell 7
      have a8 := BA3.out.cell 8
      have a9 := BA3.out.cell 9
      have a10 := BA3.out.cell 10
      have a11 := BA3.out.cell 11
      have a12 := BA3.out.cell 12
      simp at a0 a1 a2 a3 a4 a5 a6 a7 a8 a9 a10 a11 a12
      have b0 := BB3.out.cell 0
      have b1 := BB3.out.cell 1
      have b2 := BB3.out.cell 2
      have b3 := BB3.out.cell 3
      have b4 := BB3.out.cell 4
      have b5 := BB3.out.cell 5
      have b6 := BB3.out.cell 6
      have b7 := BB3.out.cell 7
      have b8 := BB3.out.cell 8
      have b9 := BB3.out.cell 9
      have b10 := BB3.out.cell 10
      have b11 := BB3.out.cell 11
      have b12 := BB3.out.cell 12
      simp at b0 b1 b2 b3 b4 b5 b6 b7 b8 b9 b10 b11 b12
      go_wp2_with fail
      go_ret
      have hx := HX.out
      have hy := HY.out
      subst hx
      have hg2 : w.heap.size ≤ g2 := by omega
      have B4 := Blk.new w3 49 (ndA (pasN 8 p) (.slice none 0 0) (.slice none 0 0) ++ ndA y (.slice (some ⟨g2, 0, none⟩) 1 1) (.slice none 0 0))
      have BC4 := BC3.out.alloc (.cells (ndA (pasN 8 p) (.slice none 0 0) (.slice none 0 0) ++ ndA y (.slice (some ⟨g2, 0, none⟩) 1 1) (.slice none 0 0)) 49)
      have F4 := F3.out.alloc F3.out.size (.cells (ndA (pasN 8 p) (.slice none 0 0) (.slice none 0 0) ++ ndA y (.slice (some ⟨g2, 0, none⟩) 1 1) (.slice none 0 0)) 49)
      have hc3 := BC3.out.lt
      have h3 := F3.out.size
      refine ⟨some ⟨w3.heap.size, 0, none⟩, 2, [(pasN 8 p, .slice none 0 0, .slice none 0 0), (y, .slice (some ⟨g2, 0, none⟩) 1 1, .slice none 0 0)], rfl, ⟨rfl, owns_blk B4 rfl h3 (by unfold maxLen; omega), ?_⟩, ?_, F4⟩
      · intro m hm
        simp only [List.mem_cons, List.not_mem_nil, or_false] at hm
        have hoff : Off (some w3.heap.size) (.slice none 0 0) := by intro A n c hv hn; injection hv; omega
        have hfre : Fresh w.heap.size (.slice none 0 0) := by intro A n c hv hn; injection hv; omega
        rcases hm with rfl | rfl
        · exact ⟨⟨⟨none, 0, rfl, Reads.none_⟩, ⟨none, 0, rfl, Reads.none_⟩⟩, hoff, hoff, hfre, hfre, thaw_nil _⟩
        · subst hy
          refine ⟨⟨⟨some ⟨g2, 0, none⟩, 1, rfl, (Reads.of_blk (size := 1) (m := 1) BC4 rfl).more (by simp; omega)⟩, ⟨none, 0, rfl, Reads.none_⟩⟩, ?_, hoff, ?_, hfre, thaw_nil _⟩
          · intro A n c hv hn ad ha e
            injection hv with h1 h2 h3
            subst h1
            injection ha with ha
            subst ha
            simp [Value.ownBlock] at e
            omega
          · intro A n c hv hn ad ha
            injection hv with h1 h2 h3
            subst h1
            injection ha with ha
            subst ha
            exact hg2
      · rw [hy, HP.out]
        rfl
end Go.Proofs.YthfibggbipkmfaaGreat
namespace Go.Proofs.YthfibggbipkmfaaGreat
set_option linter.unusedVariables false
/-- The source is there. -/
theorem src_there {L : List Nd} (h : RightG L) : ∃ n, findN L 0 = some n ∧ n.kind = 0 := by
  obtain ⟨n, hn⟩ := findN_ids.2 h.zero
  refine ⟨n, hn, ?_⟩
  have := (nodeB_iff.1 (h.each n (findN_mem hn))).2.2.1
  exact (kindB_zero this).1 (findN_id hn)
theorem find_upd_ne {N : List Nd} {id : Int} {f : Nd → Nd} (hf : ∀ n, (f n).id = n.id) {k : Int} (hk : k ≠ id) : findN (updN N id f) k = findN N k := by
  unfold findN updN
  rw [List.find?_map]
  have : ((fun x : Nd => decide (x.id = k)) ∘ fun n => if n.id = id then f n else n) = fun x : Nd => decide (x.id = k) := by
    funext n
    simp only [Function.comp]
    by_cases e : n.id = id
    · simp [e, hf]
    · simp [e]
  rw [this]
  cases hq : N.find? (fun x : Nd => decide (x.id = k)) with
  | none => rfl
  | some n =>
    have : n.id = k := by simpa using List.find?_some hq
    simp [this, hk]
theorem find_del_ne {N : List Nd} {id k : Int} (hk : k ≠ id) : findN (delN N id) k = findN N k := by
  unfold findN delN
  rw [List.find?_filter]
  congr 1
  funext n
  by_cases e : n.id = k
  · simp [e, hk]
  · simp [e]
theorem chg_src {N : List Nd} (hr : RightG N) {s : Stp} (hk : 1 ≤ s.kind ∧ s.kind ≤ 5) (h : (chgN N s).1 = 0) : findN (chgN N s).2 0 = findN N 0 := by
  obtain ⟨n0, h0, hk0⟩ := src_there hr
  unfold chgN at h ⊢
  cases hf : findN N s.nd.id with
  | none =>
    rw [hf] at h
    simp only at h ⊢
    have hne : s.nd.id ≠ 0 := fun e => by rw [e, h0] at hf; cases hf
    by_cases h2 : s.kind = 2
    · rw [if_pos h2] at h ⊢
      by_cases h3 : s.nd.kind = 0
      · rw [if_pos h3] at h; cases h
      · rw [if_neg h3]
        simp only
        rw [findN_app, h0]
    · rw [if_neg h2] at h; cases h
  | some n =>
    rw [hf] at h
    simp only at h ⊢
    have hne : n.kind ≠ 0 → s.nd.id ≠ 0 := fun hn e => by
      rw [e, h0] at hf
      injection hf with hf
      rw [← hf] at hn
      exact hn hk0
    by_cases h2 : s.kind = 2
    · rw [if_pos h2] at h; cases h
    rw [if_neg h2] at h ⊢
    by_cases h1 : s.kind = 1
    · rw [if_pos h1] at h ⊢
      by_cases c : n.kind = 1
      · rw [if_pos c] at h ⊢
        by_cases d : (chkL s.nd.pg).isSome = true
        · rw [if_pos d]
          exact find_upd_ne (f := pgN s.nd.pg) (fun _ => rfl) (Ne.symm (hne (by omega)))
        · rw [if_neg d] at h; cases h
      · rw [if_neg c] at h; cases h
    rw [if_neg h1] at h ⊢
    by_cases h3 : s.kind = 3
    · rw [if_pos h3] at h ⊢
      by_cases c : n.kind = 0 ∨ (childN N s.nd.id).length ≠ 0
      · rw [if_pos c] at h; cases h
      · rw [if_neg c]
        exact find_del_ne (Ne.symm (hne (fun e => c (.inl e))))
    rw [if_neg h3] at h ⊢
    by_cases h4 : s.kind = 4
    · rw [if_pos h4] at h ⊢
      by_cases c : n.kind = 0
      · rw [if_pos c] at h; cases h
      · rw [if_neg c]
        exact find_upd_ne (f := rtN s.nd.par s.nd.rt) (fun _ => rfl) (Ne.symm (hne c))
    rw [if_neg h4] at h ⊢
    by_cases c : n.kind = 2
    · rw [if_pos c]
      exact find_upd_ne (f := frN s.nd.fr) (fun _ => rfl) (Ne.symm (hne (by omega)))
    · rw [if_neg c] at h; cases h
theorem step_src {L : List Nd} {s : Stp} (h : (stepN L s).1 = 0) : RightG (stepN L s).2 ∧ findN (stepN L s).2 0 = findN L 0 := by
  unfold stepN at h ⊢
  by_cases hc : checkN L ≠ 0
  · rw [if_pos hc] at h; cases h
  rw [if_neg hc] at h ⊢
  have hr := checkN_zero.1 (Decidable.not_not.1 hc)
  by_cases hk : s.kind < 1 ∨ 5 < s.kind
  · rw [if_pos hk] at h; cases h
  rw [if_neg hk] at h ⊢
  obtain ⟨h1, h2, h3⟩ := end_ok h
  rw [h3]
  refine ⟨norm_right h2, ?_⟩
  simp only
  rw [findN_norm, chg_src (norm_right hr) (by omega) h1, findN_norm]
theorem go_src : ∀ (P : List Stp) (i : Nat) (L : List Nd), RightG L → (goN i L P).1 = 0 → RightG (goN i L P).2.2 ∧ findN (goN i L P).2.2 0 = findN L 0
  | [], _, L, hr, _ => ⟨hr, rfl⟩
  | s :: P, i, L, hr, h => by
    unfold goN at h ⊢
    by_cases c : (stepN L s).1 ≠ 0
    · rw [if_pos c] at h; exact absurd h c
    · rw [if_neg c] at h ⊢
      obtain ⟨a, b⟩ := step_src (Decidable.not_not.1 c)
      obtain ⟨a2, b2⟩ := go_src P (i + 1) _ a h
      exact ⟨a2, b2.trans b⟩
theorem apply_src {L : List Nd} {P : List Stp} (h : (applyN L P).1 = 0) : RightG L ∧ RightG (applyN L P).2.2 ∧ findN (applyN L P).2.2 0 = findN L 0 := by
  unfold applyN at h ⊢
  by_cases hc : checkN L ≠ 0
  · rw [if_pos hc] at h; cases h
  rw [if_neg hc] at h ⊢
  have hr := checkN_zero.1 (Decidable.not_not.1 hc)
  by_cases hk : P.length < 1 ∨ 6 < P.length
  · rw [if_pos hk] at h; cases h
  rw [if_neg hk] at h ⊢
  exact ⟨hr, go_src P 0 L hr h⟩
/-- What a step leaves stands by numbers. -/
theorem step_norml {L : List Nd} {s : Stp} (h : (stepN L s).1 = 0) : normL (stepN L s).2 = (stepN L s).2 := by
  unfold stepN at h ⊢
  by_cases hc : checkN L ≠ 0
  · rw [if_pos hc] at h; cases h
  rw [if_neg hc] at h ⊢
  by_cases hk : s.kind < 1 ∨ 5 < s.kind
  · rw [if_pos hk] at h; cases h
  rw [if_neg hk] at h ⊢
  obtain ⟨_, _, h3⟩ := end_ok h
  rw [h3]
  exact normL_norm _
theorem go_norml : ∀ (P : List Stp) (i : Nat) (L : List Nd), normL L = L → (goN i L P).1 = 0 → normL (goN i L P).2.2 = (goN i L P).2.2
  | [], _, L, hn, _ => hn
  | s :: P, i, L, hn, h => by
    unfold goN at h ⊢
    by_cases c : (stepN L s).1 ≠ 0
    · rw [if_pos c] at h; exact absurd h c
    · rw [if_neg c] at h ⊢
      exact go_norml P (i + 1) _ (step_norml (Decidable.not_not.1 c)) h
theorem apply_norml {L : List Nd} {P : List Stp} (h : (applyN L P).1 = 0) : normL (applyN L P).2.2 = (applyN L P).2.2 := by
  unfold applyN at h ⊢
  by_cases hc : checkN L ≠ 0
  · rw [if_pos hc] at h; cases h
  rw [if_neg hc] at h ⊢
  by_cases hk : P.length < 1 ∨ 6 < P.length
  · rw [if_pos hk] at h; cases h
  rw [if_neg hk] at h ⊢
  cases P with
  | nil => simp at hk
  | cons s P =>
    unfold goN at h ⊢
    by_cases c : (stepN L s).1 ≠ 0
    · rw [if_pos c] at h; exact absurd h c
    · rw [if_neg c] at h ⊢
      exact go_norml P 1 _ (step_norml (Decidable.not_not.1 c)) h
end Go.Proofs.YthfibggbipkmfaaGreat
