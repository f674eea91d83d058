/- The contract of graph.Norm. -/
import Derived.Test.YtddngibfhklnfaaNdI
namespace Go.Proofs.Ytddngibfhklnfaa
open Go.RowKit Go.Fb
/-- A slice that does not lie in a block. -/
def Off (q : Option Nat) (v : Value) : Prop := ∀ A n c, v = .slice A n c → 0 < n → ∀ ad, A = some ad → some ad.block ≠ q
theorem reads_grown {w w' : World} {B size n : Nat} {A : Option Addr} {xs : List Value} {q : Option Nat} (h : Reads w B size A n xs) (hg : w.grownBy w' q) (hB : B ≤ w.heap.size) (ho : 0 < n → ∀ ad, A = some ad → some ad.block ≠ q) : Reads w' B size A n xs :=
  ⟨h.1, fun hn => by
    obtain ⟨b, off, e, hb, hc⟩ := h.2 hn
    refine ⟨b, off, e, hb, fun j u hu => ?_⟩
    rw [World.cell?_of_block (w := w) (hg.block b (by omega) (ho hn _ e))]
    exact hc j u hu⟩
theorem reads_off {w : World} {B size n g : Nat} {A : Option Addr} {xs : List Value} {c : Nat} (h : Reads w B size A n xs) (hB : B ≤ g) : Off (some g) (.slice A n c) := by
  intro A' n' c' hv hn ad ha e
  injection hv with h1 h2 h3
  subst h1
  subst h2
  obtain ⟨b, off, e2, hb, _⟩ := h.2 hn
  rw [ha] at e2
  injection e2 with e2
  subst e2
  injection e with e
  simp only at e
  omega
theorem fresh_off {g b : Nat} {v : Value} (h : Fresh b v) (hg : g < b) : Off (some g) v := by
  intro A n c hv hn ad ha e
  have := h A n c hv hn ad ha
  injection e with e
  omega
theorem fresh_le {b b' : Nat} {v : Value} (h : Fresh b v) (hb : b' ≤ b) : Fresh b' v := fun A n c hv hn ad ha => Nat.le_trans hb (h A n c hv hn ad ha)
theorem off_none (v : Value) : Off none v := fun _ _ _ _ _ _ _ h => by cases h
/-- Nodes whose slices lie apart from the nodes' own row, and not below a block number. -/
structure NmO (base : Nat) (q : Option Nat) (w : World) (m : Ndm) : Prop where
  inn : NdIn w w.heap.size m
  o1 : Off q m.2.1
  o2 : Off q m.2.2
  f1 : Fresh base m.2.1
  f2 : Fresh base m.2.2
def NmI (base : Nat) (q : Option Nat) (w : World) (M : List Ndm) : Prop := ∀ m ∈ M, NmO base q w m
theorem NmO.fr {base : Nat} {q : Option Nat} {w w' : World} {m : Ndm} (h : NmO base q w m) (hf : Fr w.heap.size [] w w') : NmO base q w' m :=
  ⟨(h.inn.frw hf (Nat.le_refl _) (by simp)).more hf.size, h.o1, h.o2, h.f1, h.f2⟩
theorem NmI.fr {base : Nat} {q : Option Nat} {w w' : World} {M : List Ndm} (h : NmI base q w M) (hf : Fr w.heap.size [] w w') : NmI base q w' M := fun m hm => (h m hm).fr hf
theorem NmO.grown {base : Nat} {q q' : Option Nat} {w w' : World} {m : Ndm} {s : Nat} (h : NmO base q w m) (hg : w.grownBy w' q) (hq : q' = q ∨ q' = some s) (hs : w.heap.size ≤ s) : NmO base q' w' m := by
  obtain ⟨⟨⟨A, c, h1, h2⟩, ⟨A', c', h3, h4⟩⟩, o1, o2, f1, f2⟩ := h
  have hz := hg.size
  refine ⟨⟨⟨A, c, h1, ?_⟩, ⟨A', c', h3, ?_⟩⟩, ?_, ?_, f1, f2⟩
  · exact (reads_grown h2 hg (Nat.le_refl _) (o1 _ _ _ h1)).more hz
  · exact (reads_grown h4 hg (Nat.le_refl _) (o2 _ _ _ h3)).more hz
  · rcases hq with rfl | rfl
    · exact o1
    · rw [h1]; exact reads_off h2 hs
  · rcases hq with rfl | rfl
    · exact o2
    · rw [h3]; exact reads_off h4 hs
theorem NmO.frL {base : Nat} {q : Option Nat} {w w' : World} {m : Ndm} (h : NmO base q w m) (hf : Fr w.heap.size q.toList w w') : NmO base q w' m := by
  obtain ⟨⟨⟨A, c, h1, h2⟩, ⟨A', c', h3, h4⟩⟩, o1, o2, f1, f2⟩ := h
  have key : ∀ (v : Value) (B : Option Addr) (n k : Nat), v = .slice B n k → Off q v → 0 < n → ∀ ad, B = some ad → ad.block ∉ q.toList := by
    intro v B n k hv ho hn ad ha hm
    have := ho B n k hv hn ad ha
    cases q with
    | none => simp at hm
    | some g => simp at hm; exact this (by rw [hm])
  exact ⟨⟨⟨A, c, h1, (h2.frL hf (Nat.le_refl _) (key _ _ _ _ h1 o1)).more hf.size⟩, ⟨A', c', h3, (h4.frL hf (Nat.le_refl _) (key _ _ _ _ h3 o2)).more hf.size⟩⟩, o1, o2, f1, f2⟩
theorem NmO.sl {base : Nat} {q : Option Nat} {w : World} {m : Ndm} (h : NmO base q w m) : SlN m := by
  obtain ⟨⟨⟨A, c, h1, _⟩, ⟨A', c', h3, _⟩⟩, _⟩ := h
  exact ⟨A, _, c, A', _, c', h1, h3⟩
/-- The nodes by their numbers, a list of its own. -/
def NormOut (L : List Nd) (w : World) (e : Ending) (w' : World) : Prop :=
  ∃ A c n M, n = M.length ∧ e = .returned (.slice A n c) ∧ w'.ownsRow w.heap.size 38 13 (.slice A n c) n (cellsN M) ∧ NmI w.heap.size (Value.ownBlock (.slice A n c)) w' M ∧ fstN M = normL L ∧ Fr w.heap.size [] w w'
theorem ndOne {x : Nd} {Af Ap : Option Addr} {nf cf np cp : Nat} : ∀ u ∈ (ndA x (.slice Af nf cf) (.slice Ap np cp)).toList, u.oneCell' = true := by
  intro u hu
  simp at hu
  rcases hu with rfl | rfl | rfl | rfl | rfl | rfl | rfl | rfl | rfl | rfl | rfl | rfl | rfl <;> rfl
set_option maxRecDepth 100000 in
set_option maxHeartbeats 4000000 in
theorem norm_any (A : Option Addr) (c B n : Nat) (M : List Ndm) (w : World) (h : Nds w B A n M) (hB : B ≤ w.heap.size) (hs : Small M) (hn : n ≤ 20) :
    Calls Try.prog 23 #[.slice A n c] w (NormOut (fstN M) w) := by
  have H := Lib.hid h
  have HN := Lib.hid h.num
  have HS := Lib.hid hs
  clear h hs
  go_enter Try.func23, Try.ntmps23
  go_wp2_with fail
  go_loopg [3, 8] n (fun g s3 s8 wr => ∃ (k : Nat) (A' : Option Addr) (c' : Nat) (Mk : List Ndm), k ≤ n ∧ g = n - k ∧ s8 = .int .i64 k ∧ s3 = .slice A' k c' ∧ RowKit.Hid (k = Mk.length) ∧ RowKit.Hid (fstN Mk = fstN (M.take k)) ∧ RowKit.Hid (wr.ownsRow w.heap.size 38 13 (.slice A' k c') k (cellsN Mk)) ∧ RowKit.Hid (NmI w.heap.size (Value.ownBlock (.slice A' k c')) wr Mk) ∧ RowKit.Hid (Fr w.heap.size [] w wr))
  case atStart => exact ⟨0, none, 0, [], Nat.zero_le _, rfl, rfl, rfl, Lib.hid rfl, Lib.hid rfl, Lib.hid (World.ownsRow_nil _ _ _ _), Lib.hid (fun _ h => by cases h), Lib.hid (Fr.refl _ _ _)⟩
  case round =>
    obtain ⟨k, A', c', Mk, hk, rfl, rfl, rfl, HK, HQ, HO, HI, FR⟩ := hrel
    by_cases hkn : k < n
    · have hki : (k : Int) < (n : Int) := by omega
      have hk0 : (0 : Int) ≤ (k : Int) := by omega
      obtain ⟨m, hx⟩ : ∃ m, M[k]? = some m := ⟨_, List.getElem?_eq_getElem (by rw [← HN.out]; exact hkn)⟩
      have HND := H.out.frw FR.out hB (by simp)
      obtain ⟨b1, o1, rfl, hb1, hc1⟩ := HND.get hx
      have hin := HND.inn m (List.mem_of_getElem? hx)
      have hsm := HS.out.2 m (List.mem_of_getElem? hx)
      have HTK := Lib.hid (show fstN (M.take (k + 1)) = fstN (M.take k) ++ [m.1] from take_snocN hx)
      obtain ⟨x, sf, sp⟩ := m
      have hBr : B ≤ wr.heap.size := Nat.le_trans hB FR.out.size
      have fa := (Fr.refl wr.heap.size [] wr).alloc (Nat.le_refl _) (.cells (ndA x sf sp) 38)
      have HW := Lib.hid (own_any x sf sp B (wr.alloc (.cells (ndA x sf sp) 38)) (hin.frw fa hBr (by simp)) (Nat.le_trans hBr fa.size) hsm.1 hsm.2)
      have BX := Lib.hid (Blk.new wr 38 (ndA x sf sp))
      have HOa := Lib.hid (ownsRow_fr HO.out fa (fun q hq => ⟨(HO.out.lt q hq).2, by simp⟩))
      have FRa := Lib.hid (FR.out.trans (fa.mono (B' := w.heap.size) (L' := []) FR.out.size (by simp)))
      have HIa := Lib.hid (HI.out.fr fa)
      obtain ⟨⟨Af, cf, hf1, _⟩, ⟨Ap, cp, hp1, _⟩⟩ := hin
      simp only at hf1 hp1 hsm HTK
      subst hf1
      subst hp1
      obtain ⟨g0, g1, g2, g3, g4, g5, g6, g7, g8, g9, g10, g11, g12⟩ := ndL_get (x, .slice Af x.fr.length cf, .slice Ap x.pg.length cp)
      have p0 := hc1 0 _ g0
      have p1 := hc1 1 _ g1
      have p2 := hc1 2 _ g2
      have p3 := hc1 3 _ g3
      have p4 := hc1 4 _ g4
      have p5 := hc1 5 _ g5
      have p6 := hc1 6 _ g6
      have p7 := hc1 7 _ g7
      have p8 := hc1 8 _ g8
      have p9 := hc1 9 _ g9
      have p10 := hc1 10 _ g10
      have p11 := hc1 11 _ g11
      have p12 := hc1 12 _ g12
      simp only [Nat.add_zero] at p0
      obtain ⟨nf, hnf⟩ : ∃ z, z = x.fr.length := ⟨_, rfl⟩
      obtain ⟨np, hnp⟩ : ∃ z, z = x.pg.length := ⟨_, rfl⟩
      rw [← hnf] at p2 HW BX HOa FRa HIa
      rw [← hnp] at p3 HW BX HOa FRa HIa
      have HNF := Lib.hid hnf
      have HNP := Lib.hid hnp
      clear hc1 hx g0 g1 g2 g3 g4 g5 g6 g7 g8 g9 g10 g11 g12 HND hsm hnf hnp fa HO FR HI hb1
      go_upto_region 5 with fail
      clear p0 p1 p2 p3 p4 p5 p6 p7 p8 p9 p10 p11 p12
      generalize wr.alloc (.cells (ndA x (.slice Af nf cf) (.slice Ap np cp)) 38) = wa at *
      generalize wr.heap.size = gx at *
      have q0 := BX.out.cell 0
      have q1 := BX.out.cell 1
      have q2 := BX.out.cell 2
      have q3 := BX.out.cell 3
      have q4 := BX.out.cell 4
      have q5 := BX.out.cell 5
      have q6 := BX.out.cell 6
      have q7 := BX.out.cell 7
      have q8 := BX.out.cell 8
      have q9 := BX.out.cell 9
      have q10 := BX.out.cell 10
      have q11 := BX.out.cell 11
      have q12 := BX.out.cell 12
      simp at q0 q1 q2 q3 q4 q5 q6 q7 q8 q9 q10 q11 q12
      go_wp2_with fail
      refine HW.out.mono ?_
      rintro e w2 ⟨sf', sp', rfl, hin2, hfr1, hfr2, f2⟩
      have HO2 := Lib.hid (ownsRow_fr HOa.out f2 (fun q hq => ⟨(HOa.out.lt q hq).2, by simp⟩))
      have F2 := Lib.hid (FRa.out.trans (f2.mono (B' := w.heap.size) (L' := []) FRa.out.size (by simp)))
      have HI2 := Lib.hid (HIa.out.fr f2)
      have hown0 : ∀ v, Fresh wa.heap.size v → Off (Value.ownBlock (.slice A' k c')) v := by
        intro v hv
        cases hq : Value.ownBlock (.slice A' k c') with
        | none => exact off_none v
        | some g => exact fresh_off hv (HOa.out.lt g hq).2
      have HM := Lib.hid (show NmO w.heap.size (Value.ownBlock (.slice A' k c')) w2 (x, sf', sp') from ⟨hin2, hown0 _ hfr1, hown0 _ hfr2, fresh_le hfr1 FRa.out.size, fresh_le hfr2 FRa.out.size⟩)
      obtain ⟨⟨A1, c1, h1, _⟩, ⟨A2, c2, h2, _⟩⟩ := hin2
      simp only at h1 h2
      subst h1
      subst h2
      rw [← HNF.out, ← HNP.out]
      rw [← HNF.out, ← HNP.out] at HM
      have hown := HO2.out
      have hsz := F2.out.size
      have hone := Lib.hid (@ndOne x A1 A2 nf c1 np c2)
      clear f2 HW q0 q1 q2 q3 q4 q5 q6 q7 q8 q9 q10 q11 q12 hfr1 hfr2 hown0
      go_wp2_with (at_builtin; refine wpList_app_lit w2 rfl (.tmp 12) (.tmp 15) nodeTy rfl w.heap.size (.slice A' k c') k _ rfl hown 1 1 (ndA x (.slice A1 nf c1) (.slice A2 np c2)) rfl rfl hone.out (by omega) (by omega) hsz ?_; intro A3 c3 w4 hown4 hg4 hat4)
      have fa2 := (Fr.refl w2.heap.size [] w2).alloc (Nat.le_refl _) (.cells (ndA x (.slice A1 nf c1) (.slice A2 np c2)) 38)
      have HI4 := Lib.hid (show NmI w.heap.size (Value.ownBlock (.slice A3 (k + 1) c3)) w4 (Mk ++ [(x, .slice A1 nf c1, .slice A2 np c2)]) from fun m hm => by
        rcases List.mem_append.1 hm with hm | hm
        · exact ((HI2.out m hm).fr fa2).grown hg4 hat4 (by simp)
        · rw [List.mem_singleton.1 hm]
          exact (HM.out.fr fa2).grown hg4 hat4 (by simp))
      have F4 := Lib.hid (F2.out.trans (Fr.of_app hg4 hown hsz))
      have HO4 := Lib.hid (show w4.ownsRow w.heap.size 38 13 (.slice A3 (k + 1) c3) (k + 1) (cellsN (Mk ++ [(x, .slice A1 nf c1, .slice A2 np c2)])) by rw [cellsN_app]; simpa [cellsN, ndL] using hown4)
      clear hown4 hg4 hat4 hown fa2
      go_roundg (n - (k + 1))
      case measure => omega
      case rel => exact ⟨k + 1, A3, c3, _, by omega, rfl, by go_num, rfl, Lib.hid (by rw [List.length_append, ← HK.out]; rfl), Lib.hid (by rw [HTK.out, ← HQ.out]; simp [fstN]), HO4, HI4, F4⟩
    · obtain rfl : k = n := by omega
      have htk : M.take k = M := List.take_of_length_le (by rw [HN.out]; exact Nat.le_refl _)
      rw [htk] at HQ
      have HSS := Lib.hid (nstable_any w.heap.size k c' A' Mk wr hn HK.out.symm (fun m hm => (HI.out m hm).sl) HO.out)
      clear htk
      go_wp2_with fail
      refine HSS.out.mono ?_
      rintro e w1 ⟨M1, rfl, hmem, hlen, hno, ho1, f1⟩
      have HOUT := Lib.hid (show NormOut (fstN M) w (.returned (.slice A' k c')) w1 from ⟨A', c', k, M1, hlen.symm, rfl, ho1, fun m hm => (HI.out m (hmem m hm)).frL f1, by rw [hno, HQ.out], FR.out.trans (f1.mono (B' := w.heap.size) (L' := []) FR.out.size (fun q hq hlt => by
        have := (HO.out.lt q (by simpa using hq)).1
        omega))⟩)
      clear hmem hlen hno ho1 f1 HSS
      go_wp2_with fail
      go_ret
      exact HOUT.out
end Go.Proofs.Ytddngibfhklnfaa
