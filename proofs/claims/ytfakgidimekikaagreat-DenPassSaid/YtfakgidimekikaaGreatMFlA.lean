/- Texts merged into one, for the number of files a claim may have: FlA. -/
import Derived.Test.YtfakgidimekikaaGreatMIMp
import Derived.Test.YtfakgidimekikaaGreatMCtA
import Derived.Test.YtfakgidimekikaaGreatMF
import Derived.Test.YtfakgidimekikaaGreatMNdK
import Derived.Deep.DeepCutAuto
import Derived.Deep.RegionHeld3
namespace Go.Proofs.YtfakgidimekikaaGreat
open Go.RowKit Go.Fb
set_option linter.unusedVariables false
/-- What a flow's maps have of the first nodes. -/
structure FM (lo : Nat) (w : World) (gn gc gk : Nat) (L : List Nd) (M : List Ndm) (k : Nat) (TN TC TK : Int → Option Value) : Prop where
  n : IMap w gn TN
  c : IMap w gc TC
  q : IMap w gk TK
  ns : ∀ m ∈ M.take k, TN m.1.id = some (.agg (ndA m.1 m.2.1 m.2.2))
  cs : ∀ m ∈ M.take k, ∃ A q c, TC m.1.id = some (.slice A q c) ∧ q = (childN L m.1.id).length ∧ Reads w w.heap.size 1 A q ((childN L m.1.id).map (Value.int .i64)) ∧ Fresh lo (.slice A q c)
  ks : ∀ m ∈ M.take k, TK m.1.id = some (.int .i64 0)
  ki : ∀ x, TK x = none ∨ TK x = some (.int .i64 0)
theorem FM.mv {lo : Nat} {w w' : World} {gn gc gk : Nat} {L : List Nd} {M : List Ndm} {k : Nat} {TN TC TK : Int → Option Value} (h : FM lo w gn gc gk L M k TN TC TK) (hf : Fr w.heap.size [] w w') : FM lo w' gn gc gk L M k TN TC TK :=
  ⟨h.n.fr hf h.n.lt (by simp), h.c.fr hf h.c.lt (by simp), h.q.fr hf h.q.lt (by simp), h.ns, fun m hm => by
    obtain ⟨A, q, c, h1, h2, h3, h4⟩ := h.cs m hm
    exact ⟨A, q, c, h1, h2, (h3.fr hf (Nat.le_refl _) (by simp)).more hf.size, h4⟩, h.ks, h.ki⟩
theorem take_id_ne {M : List Ndm} (hn : (idsN (fstN M)).Nodup) {k : Nat} {x : Ndm} (hx : M[k]? = some x) : ∀ m ∈ M.take k, m.1.id ≠ x.1.id := by
  intro m hm e
  obtain ⟨j, hj⟩ := List.getElem?_of_mem hm
  rw [List.getElem?_take] at hj
  split at hj
  · rename_i hjk
    have h1 : (idsN (fstN M))[j]? = some m.1.id := by simp [idsN, fstN, hj]
    have h2 : (idsN (fstN M))[k]? = some x.1.id := by simp [idsN, fstN, hx]
    have hlt : j < (idsN (fstN M)).length := (List.getElem?_eq_some_iff.1 h1).1
    have := (List.getElem?_inj hlt hn).1 (h1.trans (by rw [h2, e]))
    omega
  · cases hj
theorem FM.next {lo : Nat} {wa w' : World} {gn gc gk : Nat} {L : List Nd} {M : List Ndm} {k : Nat} {TN TC TK : Int → Option Value} (h : FM lo wa gn gc gk L M k TN TC TK) {x : Nd} {sf sp : Value} (hx : M[k]? = some (x, sf, sp)) (hn : (idsN (fstN M)).Nodup)
    (hf : Fr wa.heap.size [gn, gc, gk] wa w') (h1 : gn < lo) (h2 : gc < lo) (h3 : gk < lo) {A : Option Addr} {q c : Nat} (i1 : IMap w' gn (updI TN x.id (.agg (ndA x sf sp)))) (i2 : IMap w' gc (updI TC x.id (.slice A q c))) (i3 : IMap w' gk (updI TK x.id (.int .i64 0)))
    (hq : q = (childN L x.id).length) (hrd : Reads w' w'.heap.size 1 A q ((childN L x.id).map (Value.int .i64))) (hfr : Fresh lo (.slice A q c)) : FM lo w' gn gc gk L M (k + 1) (updI TN x.id (.agg (ndA x sf sp))) (updI TC x.id (.slice A q c)) (updI TK x.id (.int .i64 0)) := by
  have hne := take_id_ne hn hx
  have ht : M.take (k + 1) = M.take k ++ [(x, sf, sp)] := by rw [List.take_add_one, hx]; rfl
  refine ⟨i1, i2, i3, fun m hm => ?_, fun m hm => ?_, fun m hm => ?_, fun y => ?_⟩
  · rw [ht, List.mem_append, List.mem_singleton] at hm
    rcases hm with hm | rfl
    · unfold updI
      rw [if_neg (hne m hm)]
      exact h.ns m hm
    · unfold updI
      rw [if_pos rfl]
  · rw [ht, List.mem_append, List.mem_singleton] at hm
    rcases hm with hm | rfl
    · obtain ⟨A', q', c', e1, e2, e3, e4⟩ := h.cs m hm
      refine ⟨A', q', c', ?_, e2, (e3.frL hf (Nat.le_refl _) (fun hn ad ha hm2 => ?_)).more hf.size, e4⟩
      · unfold updI
        rw [if_neg (hne m hm)]
        exact e1
      · have := e4 _ _ _ rfl hn ad ha
        simp at hm2
        omega
    · refine ⟨A, q, c, ?_, hq, hrd, hfr⟩
      unfold updI
      rw [if_pos rfl]
  · rw [ht, List.mem_append, List.mem_singleton] at hm
    rcases hm with hm | rfl
    · unfold updI
      rw [if_neg (hne m hm)]
      exact h.ks m hm
    · unfold updI
      rw [if_pos rfl]
  · unfold updI
    by_cases e : y = x.id
    · rw [if_pos e]; exact .inr rfl
    · rw [if_neg e]; exact h.ki y
/-- The maps of a flow. -/
structure FlA (lo : Nat) (w : World) (gf gn gc gk : Nat) (L : List Nd) (M : List Ndm) (TN TC TK : Int → Option Value) : Prop where
  fm : FM lo w gn gc gk L M M.length TN TC TK
  nm : fstN M = normL L
  inn : ∀ m ∈ M, NdIn w w.heap.size m ∧ Fresh lo m.2.1 ∧ Fresh lo m.2.2
  o1 : gn < gc
  o2 : gc < gk
  o3 : gk < gf
  o4 : gf < lo
  o5 : lo ≤ w.heap.size
def MadeOut (L : List Nd) (gt : Nat) (w : World) (e : Ending) (w' : World) : Prop :=
  ∃ lo gf gn gc gk M TN TC TK, e = .returned (.pointer (some ⟨gf, 0, none⟩)) ∧ Blk w' gf 130 #[.map (some gn), .map (some gc), .pointer (some ⟨gt, 0, none⟩), .slice none 0 0, .map (some gk)] ∧ FlA lo w' gf gn gc gk L M TN TC TK ∧ w.heap.size ≤ gn ∧ Fr w.heap.size [] w w'
set_option maxRecDepth 100000 in
set_option maxHeartbeats 8000000 in
theorem made_any (gt : Nat) (A : Option Addr) (c B n : Nat) (M : List Ndm) (w : World) (h : Nds w B A n M) (hB : B ≤ w.heap.size) (hs : Small M) (hr : RightG (fstN M)) :
    Calls Tryz.prog 104 #[.slice A n c, .pointer (some ⟨gt, 0, none⟩)] w (MadeOut (fstN M) gt w) := by
  obtain ⟨L, hL⟩ : ∃ L, L = fstN M := ⟨_, rfl⟩
  rw [← hL] at hr ⊢
  have HNM := Lib.hid (fun (wx : World) (hx : Fr w.heap.size [] w wx) => (by rw [hL]; exact norm_any A c B n M wx (h.frw hx hB (by simp)) (Nat.le_trans hB hx.size) hs (by have := hr.len; rw [hL] at this; simp [fstN] at this; rw [h.num]; omega) : Calls Tryz.prog 68 #[.slice A n c] wx (NormOut L wx)))
  have HCH := Lib.hid (fun (id : Int) (wx : World) (hx : Fr w.heap.size [] w wx) => children_any id A c B n M wx (h.frw hx hB (by simp)) (Nat.le_trans hB hx.size) hs)
  have HRG := Lib.hid hr
  have HL := Lib.hid hL
  have hmm := @run_makeMap Tryz.prog
  obtain ⟨gn, hgn⟩ : ∃ g, g = w.heap.size := ⟨_, rfl⟩
  obtain ⟨w0, hw0⟩ : ∃ x, x = (((w.alloc (.map #[] 0)).alloc (.map #[] 0)).alloc (.map #[] 0)).alloc (.cells #[.map (some w.heap.size), .map (some (w.heap.size + 1)), .pointer (some ⟨gt, 0, none⟩), .slice none 0 0, .map (some (w.heap.size + 1 + 1))] 130) := ⟨_, rfl⟩
  have I1 := (IMap.new w).fr (((((Fr.refl (gn + 1) [] (w.alloc (.map #[] 0))).alloc (by simp; omega) (.map #[] 0)).alloc (by simp; omega) (.map #[] 0)).alloc (by simp; omega) (.cells #[.map (some w.heap.size), .map (some (w.heap.size + 1)), .pointer (some ⟨gt, 0, none⟩), .slice none 0 0, .map (some (w.heap.size + 1 + 1))] 130))) (by omega) (by simp)
  have I2 := (IMap.new (w.alloc (.map #[] 0))).fr ((((Fr.refl (gn + 2) [] ((w.alloc (.map #[] 0)).alloc (.map #[] 0))).alloc (by simp; omega) (.map #[] 0)).alloc (by simp; omega) (.cells #[.map (some w.heap.size), .map (some (w.heap.size + 1)), .pointer (some ⟨gt, 0, none⟩), .slice none 0 0, .map (some (w.heap.size + 1 + 1))] 130))) (by simp; omega) (by simp)
  have I3 := (IMap.new ((w.alloc (.map #[] 0)).alloc (.map #[] 0))).fr (((Fr.refl (gn + 3) [] (((w.alloc (.map #[] 0)).alloc (.map #[] 0)).alloc (.map #[] 0))).alloc (by simp; omega) (.cells #[.map (some w.heap.size), .map (some (w.heap.size + 1)), .pointer (some ⟨gt, 0, none⟩), .slice none 0 0, .map (some (w.heap.size + 1 + 1))] 130))) (by simp; omega) (by simp)
  have B0 := Blk.new (((w.alloc (.map #[] 0)).alloc (.map #[] 0)).alloc (.map #[] 0)) 130 #[.map (some w.heap.size), .map (some (w.heap.size + 1)), .pointer (some ⟨gt, 0, none⟩), .slice none 0 0, .map (some (w.heap.size + 1 + 1))]
  have f0 : Fr w.heap.size [] w w0 := by rw [hw0]; exact ((((Fr.refl w.heap.size [] w).alloc (Nat.le_refl _) _).alloc (by simp) _).alloc (by simp; omega) _).alloc (by simp; omega) _
  have hs0 : w0.heap.size = gn + 4 := by rw [hw0, hgn]; simp
  rw [World.size_alloc] at I2 B0
  rw [World.size_alloc, World.size_alloc] at I3
  rw [World.size_alloc, World.size_alloc] at B0
  rw [← hw0] at I1 I2 I3 B0
  rw [← hgn] at I1 I2 I3 B0
  have J1 := Lib.hid I1
  have J2 := Lib.hid I2
  have J3 := Lib.hid I3
  have HB0 := Lib.hid B0
  have F0 := Lib.hid f0
  have HS0 := Lib.hid hs0
  have HW0 := Lib.hid hw0
  have HGN := Lib.hid hgn
  obtain ⟨gc, hgc⟩ : ∃ g, g = gn + 1 := ⟨_, rfl⟩
  obtain ⟨gk, hgk⟩ : ∃ g, g = gn + 1 + 1 := ⟨_, rfl⟩
  obtain ⟨gf, hgf⟩ : ∃ g, g = gn + 1 + 1 + 1 := ⟨_, rfl⟩
  have HGC := Lib.hid hgc
  have HGK := Lib.hid hgk
  have HGF := Lib.hid hgf
  have hgd : gn < gc ∧ gc < gk ∧ gk < gf := by omega
  have HGD := Lib.hid hgd
  clear hgd
  rw [← hgf, ← hgk, ← hgc] at HB0
  rw [← hgc] at J2
  rw [← hgk] at J3
  have HN0 := Lib.hid (HNM.out w0 f0)
  clear I1 I2 I3 B0 f0 hw0 hgn hgc hgk hgf HNM hs0
  go_enter Tryz.func104, Tryz.ntmps104
  go_wp2_with fail
  rw [← HW0.out]
  clear hmm
  refine HN0.out.mono ?_
  rintro e w1 ⟨An, cn, nn, MN, hnn, rfl, hown, hnmi, hfst, f1⟩
  rw [← HGN.out, ← HGF.out]
  have HMN := Lib.hid (Nmd.mk hnn hown hnmi)
  have HF := Lib.hid hfst
  have HND2 := Lib.hid (show (idsN (normL L)).Nodup from ((normL_perm L).map (fun n : Nd => n.id)).nodup_iff.2 HRG.out.uni)
  have hnm : nn = MN.length := hnn
  have HNN := Lib.hid hnm
  have hnn8 : nn ≤ 8 := by
    have h1 := congrArg List.length hfst
    rw [normL_len] at h1
    simp only [fstN, List.length_map] at h1
    rw [hnm, h1]
    exact HRG.out.len
  have F1 := Lib.hid (F0.out.trans (f1.mono (B' := w.heap.size) (L' := []) F0.out.size (by simp)))
  have F01 := Lib.hid f1
  have HM1 := Lib.hid (FM.mk (lo := w0.heap.size) (L := L) (M := MN) (k := 0) (J1.out.fr f1 J1.out.lt (by simp)) (J2.out.fr f1 J2.out.lt (by simp)) (J3.out.fr f1 J3.out.lt (by simp)) (by simp) (by simp) (by simp) (fun _ => .inl rfl))
  have HB1 := Lib.hid (HB0.out.fr f1 HB0.out.lt (by simp))
  have hlf : gf < w0.heap.size := HB0.out.lt
  have hln : gn < w0.heap.size := J1.out.lt
  have hlc : gc < w0.heap.size := J2.out.lt
  have hlk : gk < w0.heap.size := J3.out.lt
  have hs01 : w0.heap.size ≤ w1.heap.size := f1.size
  clear hnn hown hnmi hfst f1 HN0 J1 J2 J3 HB0 hnm F0
  go_wp2_with fail
  go_loopg [7, 17] nn (fun g s7 s17 wr => ∃ (k : Nat) (TN TC TK : Int → Option Value), k ≤ nn ∧ g = nn - k ∧ s17 = .int .i64 k ∧ (s7 = undef ∨ ∃ a, s7 = .pointer a) ∧ RowKit.Hid (FM w0.heap.size wr gn gc gk L MN k TN TC TK) ∧ RowKit.Hid (Fr w1.heap.size [gn, gc, gk] w1 wr))
  case atStart => exact ⟨0, _, _, _, Nat.zero_le _, rfl, rfl, .inl rfl, HM1, Lib.hid (Fr.refl _ _ _)⟩
  case round =>
    clear HM1
    obtain ⟨k, TN, TC, TK, hk, rfl, rfl, h7, HM, FR⟩ := hrel
    by_cases hkn : k < nn
    · have hki : (k : Int) < (nn : Int) := by omega
      have hk0 : (0 : Int) ≤ (k : Int) := by omega
      obtain ⟨m, hx⟩ : ∃ m, MN[k]? = some m := ⟨_, List.getElem?_eq_getElem (by rw [← HNN.out]; exact hkn)⟩
      have HSW := HMN.out.frd (FR.out.mono (B' := w1.heap.size) (L' := [gn, gc, gk]) (Nat.le_refl _) (by simp)) (by simp; omega)
      have HND := HSW.nds (L := []) (Fr.refl _ _ _) (by simp)
      obtain ⟨b1, o1, hA1, hb1, hc1⟩ := HND.get hx
      have hmI := HSW.inn m (List.mem_of_getElem? hx)
      have HXK := Lib.hid hx
      obtain ⟨x, sf, sp⟩ := m
      obtain ⟨⟨⟨Af, cf, hf1, _⟩, ⟨Ap, cp, hp1, _⟩⟩, _⟩ := hmI
      simp only at hf1 hp1
      subst hf1
      subst hp1
      obtain ⟨nf, hnf⟩ : ∃ z, z = x.fr.length := ⟨_, rfl⟩
      obtain ⟨np, hnp⟩ : ∃ z, z = x.pg.length := ⟨_, rfl⟩
      rw [← hnf, ← hnp] at hc1 HXK
      subst hA1
      have p0 := hc1 0 (.int .i64 x.id) rfl
      have p1 := hc1 1 (.int .i64 x.kind) rfl
      have p2 := hc1 2 (.slice Af nf cf) rfl
      have p3 := hc1 3 (.slice Ap np cp) rfl
      have p4 := hc1 4 (.int .i64 x.par) rfl
      have p5 := hc1 5 (.int .i64 (x.rt 0)) rfl
      have p6 := hc1 6 (.int .i64 (x.rt 1)) rfl
      have p7 := hc1 7 (.int .i64 (x.rt 2)) rfl
      have p8 := hc1 8 (.int .i64 (x.rt 3)) rfl
      have p9 := hc1 9 (.int .i64 (x.rt 4)) rfl
      have p10 := hc1 10 (.int .i64 (x.rt 5)) rfl
      have p11 := hc1 11 (.int .i64 (x.rt 6)) rfl
      have p12 := hc1 12 (.int .i64 (x.rt 7)) rfl
      simp only [Nat.add_zero] at p0
      clear hc1 hx HSW hnf hnp hb1 HND
      have BX := Lib.hid (Blk.new wr 50 (ndA x (.slice Af nf cf) (.slice Ap np cp)))
      have fa := (Fr.refl wr.heap.size [] wr).alloc (Nat.le_refl _) (.cells (ndA x (.slice Af nf cf) (.slice Ap np cp)) 50)
      have hwr : w1.heap.size ≤ wr.heap.size := FR.out.size
      have FA := Lib.hid (FR.out.trans (fa.mono (B' := w1.heap.size) (L' := [gn, gc, gk]) FR.out.size (by simp)))
      have HMA := Lib.hid (HM.out.mv fa)
      clear fa HM FR
      go_upto_region 5 with fail
      clear p0 p1 p2 p3 p4 p5 p6 p7 p8 p9 p10 p11 p12
      generalize wr.alloc (.cells (ndA x (.slice Af nf cf) (.slice Ap np cp)) 50) = wa at *
      obtain ⟨gx, hgx⟩ : ∃ g, g = wr.heap.size := ⟨_, rfl⟩
      rw [← hgx] at BX
      rw [← hgx]
      have hgx1 : w1.heap.size ≤ gx := by omega
      clear hgx hwr
      have BF := Lib.hid (HB1.out.fr FA.out (by omega) (by have := HGD.out; simp; omega))
      obtain ⟨w3, hst, hm3, f3, hs3⟩ := (HMA.out.q.fr (Fr.refl wa.heap.size [] wa).drew HMA.out.q.lt (by simp) : IMap wa.drew gk TK).upd Tryz.underlying67 x.id (.int .i64 0)
      have q4 : wa.cell? ⟨gf, 4, none⟩ = some (.map (some gk)) := BF.out.cell 4
      have q4d : wa.drew.cell? ⟨gf, 4, none⟩ = some (.map (some gk)) := q4
      have x0 : wa.cell? ⟨gx, 0, none⟩ = some (.int .i64 x.id) := BX.out.cell 0
      have x0d : wa.drew.cell? ⟨gx, 0, none⟩ = some (.int .i64 x.id) := x0
      have F3 := Lib.hid (((Fr.refl wa.heap.size [gk] wa).drew).trans f3)
      have HM3 := Lib.hid hm3
      clear hm3 f3
      go_cut [24] (fun s24 wx => wx = w3)
      case first =>
        go_region_with fail
        all_goals
          go_wp2_with fail
          go_meet
          exact rfl
      case rest =>
        subst hcut
        have HGDo := HGD.out
        have BF3 := Lib.hid (BF.out.fr F3.out BF.out.lt (by simp; omega))
        have BX3 := Lib.hid (BX.out.fr F3.out BX.out.lt (by simp; omega))
        have FW3 := Lib.hid (F1.out.trans ((FA.out.trans (F3.out.mono (B' := w1.heap.size) (L' := [gn, gc, gk]) FA.out.size (by simp))).mono (B' := w.heap.size) (L' := []) F1.out.size (by have := HGN.out; simp; omega)))
        have IN3 := Lib.hid (HMA.out.n.fr F3.out HMA.out.n.lt (by simp; omega))
        have IC3 := Lib.hid (HMA.out.c.fr F3.out HMA.out.c.lt (by simp; omega))
        clear q4 q4d x0 x0d hst hs3 BF BX
        have hzN : ∀ u, (zeroValue 50).run Tryz.prog u = .ok (.agg ndZ) u := fun u => by kernel_rfl
        have hzC : ∀ u, (zeroValue 46).run Tryz.prog u = .ok (.slice none 0 0) u := fun u => by kernel_rfl
        have HZN := Lib.hid hzN
        have HZC := Lib.hid hzC
        clear hzN hzC
        go_upto_region 6 with fail
        have INV := Lib.hid ((Fr.refl wc.heap.size [gn, gc] wc).drew)
        have FD := Lib.hid ((Fr.refl wc.heap.size [] wc).drew)
        have SF := Lib.hid (fun (W : World) (hf : Fr wc.heap.size [gn, gc] wc W) => (by
          have b := BX3.out.fr hf BX3.out.lt (by simp; omega)
          have d := BF3.out.fr hf BF3.out.lt (by simp; omega)
          exact ⟨d.cell 0, d.cell 1, b.cell 0, b.cell 1, b.cell 2, b.cell 3, b.cell 4, b.cell 5, b.cell 6, b.cell 7, b.cell 8, b.cell 9, b.cell 10, b.cell 11, b.cell 12⟩ : W.cell? ⟨gf, 0, none⟩ = some (.map (some gn)) ∧ W.cell? ⟨gf, 1, none⟩ = some (.map (some gc)) ∧ W.cell? ⟨gx, 0, none⟩ = some (.int .i64 x.id) ∧ W.cell? ⟨gx, 1, none⟩ = some (.int .i64 x.kind) ∧ W.cell? ⟨gx, 2, none⟩ = some (.slice Af nf cf) ∧ W.cell? ⟨gx, 3, none⟩ = some (.slice Ap np cp) ∧ W.cell? ⟨gx, 4, none⟩ = some (.int .i64 x.par) ∧ W.cell? ⟨gx, 5, none⟩ = some (.int .i64 (x.rt 0)) ∧ W.cell? ⟨gx, 6, none⟩ = some (.int .i64 (x.rt 1)) ∧ W.cell? ⟨gx, 7, none⟩ = some (.int .i64 (x.rt 2)) ∧ W.cell? ⟨gx, 8, none⟩ = some (.int .i64 (x.rt 3)) ∧ W.cell? ⟨gx, 9, none⟩ = some (.int .i64 (x.rt 4)) ∧ W.cell? ⟨gx, 10, none⟩ = some (.int .i64 (x.rt 5)) ∧ W.cell? ⟨gx, 11, none⟩ = some (.int .i64 (x.rt 6)) ∧ W.cell? ⟨gx, 12, none⟩ = some (.int .i64 (x.rt 7))))
        go_region_held3 (fun W => W.cell? ⟨gf, 0, none⟩ = some (.map (some gn)) ∧ W.cell? ⟨gf, 1, none⟩ = some (.map (some gc)) ∧ W.cell? ⟨gx, 0, none⟩ = some (.int .i64 x.id) ∧ W.cell? ⟨gx, 1, none⟩ = some (.int .i64 x.kind) ∧ W.cell? ⟨gx, 2, none⟩ = some (.slice Af nf cf) ∧ W.cell? ⟨gx, 3, none⟩ = some (.slice Ap np cp) ∧ W.cell? ⟨gx, 4, none⟩ = some (.int .i64 x.par) ∧ W.cell? ⟨gx, 5, none⟩ = some (.int .i64 (x.rt 0)) ∧ W.cell? ⟨gx, 6, none⟩ = some (.int .i64 (x.rt 1)) ∧ W.cell? ⟨gx, 7, none⟩ = some (.int .i64 (x.rt 2)) ∧ W.cell? ⟨gx, 8, none⟩ = some (.int .i64 (x.rt 3)) ∧ W.cell? ⟨gx, 9, none⟩ = some (.int .i64 (x.rt 4)) ∧ W.cell? ⟨gx, 10, none⟩ = some (.int .i64 (x.rt 5)) ∧ W.cell? ⟨gx, 11, none⟩ = some (.int .i64 (x.rt 6)) ∧ W.cell? ⟨gx, 12, none⟩ = some (.int .i64 (x.rt 7))) (first | exact SF.out _ INV.out | exact SF.out _ K5.out | exact SF.out _ K6.out | exact SF.out _ K7.out | exact SF.out _ K8.out)
          ((first | (go_at_call 133; refine (HCH.out _ _ (FW3.out.trans (INV.out.mono (B' := w.heap.size) (L' := []) FW3.out.size (by have := HGN.out; simp; omega)))).mono ?_; rintro e wv ⟨Av, cv, nv, hnv, rfl, hov, fv⟩; have INV := Lib.hid (INV.out.trans (fv.mono (B' := _) (L' := [gn, gc]) INV.out.size (by simp))); have HOV := Lib.hid hov; have HNV := Lib.hid hnv; have FV := Lib.hid fv; have FDV := FD.out.trans (fv.mono (B' := wc.heap.size) (L' := []) FD.out.size (by simp)); obtain ⟨st, w5, hme, f5, hs5, hest⟩ := (IN3.out.fr FDV IN3.out.lt (by simp) : IMap wv gn TN).entry Tryz.underlying127 HZN.out x.id; obtain ⟨w6, hes, im6, f6, hs6⟩ := hest w5 (.agg (ndA x (.slice Af nf cf) (.slice Ap np cp))) rfl; have F56 := f5.trans (f6.mono (B' := wv.heap.size) (L' := [gn]) (by omega) (by simp)); have F6 := (FDV.mono (B' := wc.heap.size) (L' := [gn]) (Nat.le_refl _) (by simp)).trans (F56.mono (B' := wc.heap.size) (L' := [gn]) FDV.size (by simp)); obtain ⟨st2, w7, hme2, f7, hs7, hest2⟩ := (IC3.out.fr (F6.mono (B' := wc.heap.size) (L' := [gn]) (Nat.le_refl _) (by simp)) IC3.out.lt (by simp; omega) : IMap w6 gc TC).entry Tryz.underlying128 HZC.out x.id; obtain ⟨w8, hes2, im8, f8, hs8⟩ := hest2 w7 (.slice Av nv cv) rfl; have K5 := Lib.hid (INV.out.trans (f5.mono (B' := wc.heap.size) (L' := [gn, gc]) INV.out.size (by simp))); have K6 := Lib.hid (K5.out.trans (f6.mono (B' := wc.heap.size) (L' := [gn, gc]) (by have := INV.out.size; omega) (by simp))); have K7 := Lib.hid (K6.out.trans (f7.mono (B' := wc.heap.size) (L' := [gn, gc]) K6.out.size (by simp))); have K8 := Lib.hid (K7.out.trans (f8.mono (B' := wc.heap.size) (L' := [gn, gc]) K7.out.size (by simp))); have F68 := f7.trans (f8.mono (B' := w6.heap.size) (L' := [gc]) (by omega) (by simp)); have HI6 := Lib.hid (im6.fr F68 im6.lt (by simp; omega)); have HI8 := Lib.hid im8; have HFV8 := Lib.hid ((F56.mono (B' := wv.heap.size) (L' := [gn, gc]) (Nat.le_refl _) (by simp)).trans (F68.mono (B' := wv.heap.size) (L' := [gn, gc]) (by omega) (by simp))); clear fv hov hnv f5 f6 f7 f8 im6 im8 hs5 hs6 hs7 hs8 hest hest2 F56 F6 F68 FDV)))
        all_goals
          go_wp2_with fail
          have K8o := K8.out
          have FA8 := Lib.hid ((F3.out.mono (B' := wa.heap.size) (L' := [gn, gc, gk]) (Nat.le_refl _) (by simp)).trans (K8o.mono (B' := wa.heap.size) (L' := [gn, gc, gk]) F3.out.size (by simp)))
          have HMX := Lib.hid (HMA.out.next HXK.out (by rw [HF.out]; exact HND2.out) FA8.out hln hlc hlk HI6.out HI8.out (HM3.out.fr K8o HM3.out.lt (by simp; omega)) (by rw [HNV.out, HL.out]; rfl) ((by
            have h1 := Reads.of_own HOV.out
            have h2 := (h1.frL HFV8.out (Nat.le_refl _) (fun hn ad ha hm2 => by
              obtain ⟨g, cap, hv, hbg, hlt⟩ := HOV.out.form hn
              injection hv with e1 _ _
              rw [ha] at e1
              injection e1 with e1
              subst e1
              have h5 := F3.out.size
              have h6 := FA.out.size
              have h7 : w.drew.heap.size = w.heap.size := rfl
              simp at hm2
              have h8 : wc.heap.size ≤ g := hbg
              omega)).more HFV8.out.size
            rw [show M.map (fun x => x.1) = L from HL.out.symm] at h2
            exact h2)) (fresh_own HOV.out (by have h5 := F3.out.size; have h6 := FA.out.size; show w0.heap.size ≤ wc.heap.size; omega)))
          have FN := Lib.hid (FA.out.trans (FA8.out.mono (B' := w1.heap.size) (L' := [gn, gc, gk]) FA.out.size (by simp)))
          clear hme hes hme2 hes2
          go_roundg (nn - (k + 1))
          case measure => omega
          case rel => exact ⟨k + 1, _, _, _, by omega, rfl, by go_num, .inr ⟨_, rfl⟩, HMX, FN⟩
    · obtain rfl : nn = k := by omega
      have HGDo := HGD.out
      have HGNo := HGN.out
      have BF := Lib.hid (HB1.out.fr FR.out HB1.out.lt (by simp; omega))
      have FW := Lib.hid (F1.out.trans (FR.out.mono (B' := w.heap.size) (L' := []) F1.out.size (by intro q hq; simp at hq; omega)))
      have HME := HMN.out.frd FR.out (by intro q hq; simp at hq; omega)
      have HFA := Lib.hid (FlA.mk (gf := gf) (by rw [← HNN.out]; exact HM.out) HF.out (fun m hm => ⟨(HME.inn m hm).inn, (HME.inn m hm).f1, (HME.inn m hm).f2⟩) HGDo.1 HGDo.2.1 HGDo.2.2 hlf (Nat.le_trans hs01 FR.out.size))
      clear HME
      go_wp2_with fail
      go_ret
      exact ⟨_, gf, gn, gc, gk, MN, TN, TC, TK, rfl, BF.out, HFA.out, by omega, FW.out⟩
end Go.Proofs.YtfakgidimekikaaGreat
