/- The walk of GraphGrows. -/
import Derived.Test.YtjekpfcniamodaaGAwake
import Derived.Test.YtjekpfcniamodaaGrR
import Derived.Test.YtjekpfcniamodaaStepApp
import Derived.Deep.RegionHeld3
import Derived.Deep.DeepCutAuto
import Derived.BigRegion
namespace Go.Proofs.Ytjekpfcniamodaa
open Go.RowKit Go.Fb
theorem small_great {M : List Ndm} (h : greatN (fstN M) = false) : M.length ≤ 20 ∧ Small M ∧ ∀ m ∈ M, m.1.fr.length ≤ 20 ∧ m.1.pg.length ≤ 60 := by
  unfold greatN at h
  simp only [Bool.or_eq_false_iff, decide_eq_false_iff_not, List.any_eq_false, Bool.or_eq_true, decide_eq_true_eq, not_or] at h
  have hl : M.length ≤ 20 := by have := h.1; simp [fstN] at this; omega
  have hm : ∀ m ∈ M, m.1.fr.length ≤ 20 ∧ m.1.pg.length ≤ 60 := fun m hm => by
    have := h.2 m.1 (List.mem_map.2 ⟨m, hm, rfl⟩)
    omega
  exact ⟨hl, ⟨by omega, fun m hm2 => by have := hm m hm2; omega⟩, hm⟩
/-- A row of nodes with one more. -/
theorem nds_app {w : World} {base B n c : Nat} {A : Option Addr} {M : List Ndm} (ho : w.ownsRow base 31 13 (.slice A n c) n (cellsN M)) (hi : ∀ m ∈ M, NdIn w B m) (hB : w.heap.size ≤ B) (hn : n = M.length) : Nds w B A n M :=
  ⟨hn, (Reads.of_own ho).more hB, hi⟩
theorem nowns_empty (w : World) : (w.alloc (.cells #[] 31)).ownsRow w.heap.size 31 13 (.slice (some ⟨w.heap.size, 0, none⟩) 0 0) 0 [] := by
  refine ⟨rfl, .inr ⟨w.heap.size, 0, #[], rfl, Nat.le_refl _, Blk.new _ _ _, ?_⟩⟩
  simp
theorem cellsN_one {M : List Ndm} (h : ∀ m ∈ M, SlN m) : ∀ u ∈ cellsN M, u.oneCell' = true := by
  intro u hu
  obtain ⟨m, hm, hu⟩ := List.mem_flatMap.1 hu
  obtain ⟨A, n, c, P, q, d, e1, e2⟩ := h m hm
  obtain ⟨x, sf, sp⟩ := m
  simp only at e1 e2
  subst e1
  subst e2
  exact ndOne u hu
theorem NdIn.sl {w : World} {B : Nat} {m : Ndm} (h : NdIn w B m) : SlN m := by
  obtain ⟨⟨A, c, h1, _⟩, ⟨A', c', h3, _⟩⟩ := h
  exact ⟨A, _, c, A', _, c', h1, h3⟩
theorem cellsN_take {M : List Ndm} {k : Nat} {u : Value} (h : u ∈ cellsN (M.take k)) : u ∈ cellsN M := by
  obtain ⟨m, hm, hu⟩ := List.mem_flatMap.1 h
  exact List.mem_flatMap.2 ⟨m, List.mem_of_mem_take hm, hu⟩
theorem cellsN_drop {M : List Ndm} {k : Nat} {u : Value} (h : u ∈ cellsN (M.drop k)) : u ∈ cellsN M := by
  obtain ⟨m, hm, hu⟩ := List.mem_flatMap.1 h
  exact List.mem_flatMap.2 ⟨m, List.mem_of_mem_drop hm, hu⟩
/-- What stands ahead of a node, and behind it. -/
theorem nds_cut {w : World} {B n b off : Nat} {M : List Ndm} (h : Nds w B (some ⟨b, off, none⟩) n M) {k : Nat} (hk : k < n) :
    Reads w B 13 (some ⟨b, off, none⟩) k (cellsN (M.take k)) ∧ Reads w B 13 (some ⟨b, off + (k + 1) * 13, none⟩) (n - (k + 1)) (cellsN (M.drop (k + 1))) := by
  obtain ⟨b2, off2, e, hb, hc⟩ := h.rd.2 (by omega)
  injection e with e
  injection e with e1 e2 _
  subst e1
  subst e2
  have hn := h.num
  refine ⟨⟨by rw [cellsN_length, List.length_take]; congr 1; omega, fun _ => ⟨b, off, rfl, hb, fun j u hu => ?_⟩⟩, ⟨by rw [cellsN_length, List.length_drop, ← hn], fun _ => ⟨b, _, rfl, hb, fun j u hu => ?_⟩⟩⟩
  · refine hc j u ?_
    have e : cellsN M = cellsN (M.take k) ++ cellsN (M.drop k) := by rw [← cellsN_app, List.take_append_drop]
    rw [e, List.getElem?_append_left (by rcases Nat.lt_or_ge j (cellsN (M.take k)).length with h | h; exact h; rw [List.getElem?_eq_none h] at hu; cases hu)]
    exact hu
  · rw [Nat.add_assoc]
    refine hc _ u ?_
    have e : cellsN M = cellsN (M.take (k + 1)) ++ cellsN (M.drop (k + 1)) := by rw [← cellsN_app, List.take_append_drop]
    have hl : (cellsN (M.take (k + 1))).length = (k + 1) * 13 := by rw [cellsN_length, List.length_take]; congr 1; omega
    rw [e, List.getElem?_append_right (by omega), hl, Nat.add_sub_cancel_left]
    exact hu
set_option maxRecDepth 100000 in
set_option maxHeartbeats 8000000 in
theorem walk_GraphGrows (A : Option Addr) (n c : Nat) (M : List Ndm) (hc : n ≤ c) (hm : c ≤ maxLen) (w : World) (h : Nds w w.heap.size A n M) (id frm : Int) :
    Calls Try.prog 3 #[.slice A n c, .int .i64 id, .int .i64 frm] w fun e w' => e = .returned (.bool true) ∧ Below w.heap.size w w' := by
  obtain ⟨L, hL⟩ : ∃ L, L = fstN M := ⟨_, rfl⟩
  have HL := Lib.hid hL
  have H := Lib.hid h
  have HG := fun (wx : World) (hx : Fr w.heap.size [] w wx) => great08_any A c w.heap.size n M wx (h.frw hx (Nat.le_refl _) (by simp)) hx.size (by omega)
  obtain ⟨gb, hgb⟩ : ∃ b, b = greatN L := ⟨_, rfl⟩
  rw [← hL, ← hgb] at HG
  have HG := Lib.hid HG
  have HGB := Lib.hid hgb
  have HA := Lib.hid (awake08_any w)
  clear h hL hgb
  go_enter Try.func3, Try.ntmps3
  go_wp2_with fail
  refine HA.out.mono ?_
  rintro e w1 ⟨rfl, f1⟩
  have F1 := Lib.hid f1
  clear f1 HA
  go_wp2_with fail
  refine (HG.out w1 F1.out).mono ?_
  rintro e w2 ⟨rfl, f2⟩
  have F2 := Lib.hid (F1.out.trans (f2.mono (B' := w.heap.size) (L' := []) F1.out.size (by simp)))
  clear f2 HG F1
  cases gb with
  | true =>
    go_wp2_with fail
    go_ret
    exact ⟨rfl, F2.out.below⟩
  | false =>
    obtain ⟨hl20, hs, hfp⟩ := small_great (by rw [← HL.out]; exact HGB.out.symm : greatN (fstN M) = false)
    have HS := Lib.hid hs
    have hn20 : n ≤ 20 := by rw [H.out.num]; exact hl20
    have HC := gcheck_any A c w.heap.size n M w2 (H.out.frw F2.out (Nat.le_refl _) (by simp)) F2.out.size hs
    obtain ⟨cv, hcv⟩ : ∃ v, v = checkN L := ⟨_, rfl⟩
    rw [← HL.out, ← hcv] at HC
    have HC := Lib.hid HC
    have HCV := Lib.hid hcv
    clear hs hfp hcv hl20 HGB
    go_wp2_with fail
    refine HC.out.mono ?_
    rintro e w3 ⟨rfl, f3⟩
    have F3 := Lib.hid (F2.out.trans (f3.mono (B' := w.heap.size) (L' := []) F2.out.size (by simp)))
    clear f3 HC F2
    by_cases c0 : cv = 0
    case neg =>
      have hb0 : (cv == 0) = false := by simpa using c0
      have hb1 : (cv != 0) = true := by simpa using c0
      go_wp2_with fail
      go_ret
      exact ⟨rfl, F3.out.below⟩
    subst c0
    have hr := checkN_zero.1 HCV.out.symm
    have HR := Lib.hid hr
    have hn8 : n ≤ 8 := by rw [H.out.num]; have := hr.len; rw [HL.out] at this; simpa [fstN] using this
    clear hr HCV
    by_cases i1 : id < 1
    · have hd1 : decide (id < 1) = true := decide_eq_true i1
      go_wp2_with fail
      go_ret
      exact ⟨rfl, F3.out.below⟩
    by_cases i7 : 7 < id
    · have hd1 : decide (id < 1) = false := decide_eq_false i1
      have hd2 : decide (7 < id) = true := decide_eq_true i7
      go_wp2_with fail
      go_ret
      exact ⟨rfl, F3.out.below⟩
    have hd1 : decide (id < 1) = false := decide_eq_false i1
    have hd2 : decide (7 < id) = false := decide_eq_false i7
    have HF := fun (k : Int) (wx : World) (hx : Fr w.heap.size [] w wx) => find_any k A c w.heap.size n M wx (H.out.frw hx (Nat.le_refl _) (by simp)) hx.size HS.out
    rw [show M.map (·.1) = L from HL.out.symm] at HF
    have HF := Lib.hid HF
    go_wp2_with fail
    refine (HF.out id w3 F3.out).mono ?_
    rintro e w4 hfo
    obtain ⟨x1, sf1, sp1, hx1, rfl, hin1, f4⟩ := hfo.get
    obtain ⟨tb, htb⟩ : ∃ b, b = (findN L id).isSome := ⟨_, rfl⟩
    rw [← htb]
    have HTB := Lib.hid htb
    have F4 := Lib.hid ((F3.out.trans (f4.mono (B' := w.heap.size) (L' := []) F3.out.size (by simp))).alloc (by have := F3.out.size; have := f4.size; omega) (.cells (ndA x1 sf1 sp1) 31))
    obtain ⟨⟨Af1, cf1, hf1, _⟩, ⟨Ap1, cp1, hp1, _⟩⟩ := hin1
    simp only at hf1 hp1
    subst hf1
    subst hp1
    clear hfo hx1 f4 htb
    go_wp2_with fail
    generalize w4.alloc (.cells (ndA x1 (.slice Af1 x1.fr.length cf1) (.slice Ap1 x1.pg.length cp1)) 31) = w5 at *
    refine (HF.out frm w5 F4.out).mono ?_
    rintro e w6 hfo
    obtain ⟨x2, sf2, sp2, hx2, rfl, hin2, f6⟩ := hfo.get
    obtain ⟨ob, hob⟩ : ∃ b, b = (findN L frm).isSome := ⟨_, rfl⟩
    rw [← hob]
    have HOB := Lib.hid hob
    have HX2 := Lib.hid hx2
    have F6 := Lib.hid ((F4.out.trans (f6.mono (B' := w.heap.size) (L' := []) F4.out.size (by simp))).alloc (by have := F4.out.size; have := f6.size; omega) (.cells (ndA x2 sf2 sp2) 31))
    have BY := Lib.hid (Blk.new w6 31 (ndA x2 sf2 sp2))
    obtain ⟨⟨Af2, cf2, hf2, _⟩, ⟨Ap2, cp2, hp2, _⟩⟩ := hin2
    simp only at hf2 hp2
    subst hf2
    subst hp2
    clear hfo hx2 f6 hob F4
    go_upto_region 7 with fail
    generalize w6.alloc (.cells (ndA x2 (.slice Af2 x2.fr.length cf2) (.slice Ap2 x2.pg.length cp2)) 31) = w7 at *
    generalize w6.heap.size = gy at *
    have HO7 := Lib.hid (nowns_empty w7)
    have hsz7 : w.heap.size ≤ w7.heap.size := F6.out.size
    have fa7 := Lib.hid ((Fr.refl w7.heap.size [] w7).alloc (Nat.le_refl _) (.cells #[] 31))
    have RD := Lib.hid ((H.out.frw (F6.out.trans (fa7.out.mono (B' := w.heap.size) (L' := []) hsz7 (by simp))) (Nat.le_refl _) (by simp)).rd)
    have hone := Lib.hid (cellsN_one (M := M) fun m hm => (H.out.inn m hm).sl)
    have ho7 := HO7.out
    have tok : True := trivial
    go_upto_region 8 with (first
      | (at_builtin; refine wpList_app _ rfl (.tmp 44) (.tmp 45) nodeTy rfl w7.heap.size (.slice (some ⟨w7.heap.size, 0, none⟩) 0 0) 0 [] rfl ho7 w.heap.size _ n _ (cellsN M) rfl RD.out hone.out (by omega) (by omega) (by simp) ?_; intro A3 c3 w8 hown8 hg8 hat8; rw [Nat.zero_add] at hown8 hat8; simp only [Nat.zero_add]; rw [List.nil_append] at hown8; have hsz8 := hg8.size; rw [World.size_alloc] at hsz8)
      | (at_builtin; have hb9 := Blk.new (w8.alloc (.cells #[.int .i64 frm] 3)) 31 (ndA (snkN id frm) (.slice (some ⟨w8.heap.size, 0, none⟩) 1 1) (.slice none 0 0)); rw [World.size_alloc] at hb9; refine wpList_app _ rfl (.tmp 46) (.tmp 51) nodeTy rfl w7.heap.size (.slice A3 n c3) n _ rfl ((hown8.alloc _).alloc _) (w8.heap.size + 1 + 1) _ 1 _ _ rfl (Reads.of_blk hb9 rfl) ndOne (by omega) (by omega) (by simp; omega) ?_; intro A5 c5 w10 hown10 hg10 hat10))
    clear tok
    have f8 := fa7.out.grown hg8 (by simp) (fun k hk => .inl (by simp [Value.ownBlock] at hk; omega))
    have f10 : Fr w7.heap.size [] w7 w10 := ((f8.alloc f8.size (.cells #[.int .i64 frm] 3)).alloc (by have := f8.size; simp; omega) (.cells (ndA (snkN id frm) (.slice (some ⟨w8.heap.size, 0, none⟩) 1 1) (.slice none 0 0)) 31)).grown hg10 (by have := f8.size; simp; omega) (fun k hk => .inl (hown8.lt k hk).1)
    have F10 := Lib.hid (F6.out.trans (f10.mono (B' := w.heap.size) (L' := []) hsz7 (by simp)))
    have BY10 := Lib.hid (BY.out.fr f10 BY.out.lt (by simp))
    have bs10 : Blk w10 w8.heap.size 3 #[.int .i64 frm] := ((Blk.new w8 3 #[.int .i64 frm]).alloc _).grown hg10 (by intro e; have := (hown8.lt _ e.symm).2; omega)
    have HM10 := Lib.hid (show Nds w10 w10.heap.size A5 (n + 1) (M ++ [(snkN id frm, .slice (some ⟨w8.heap.size, 0, none⟩) 1 1, .slice none 0 0)]) from nds_app (by rw [cellsN_app]; exact hown10) (fun m hm => by
      rcases List.mem_append.1 hm with hm | hm
      · exact ((H.out.inn m hm).frw F10.out (Nat.le_refl _) (by simp)).more F10.out.size
      · rw [List.mem_singleton.1 hm]
        exact ⟨⟨some ⟨w8.heap.size, 0, none⟩, 1, rfl, (Reads.of_blk (size := 1) (m := 1) bs10 rfl).more bs10.lt⟩, ⟨none, 0, rfl, Reads.none_⟩⟩) (Nat.le_refl _) (by rw [List.length_append, H.out.num]; rfl))
    have hsm10 : Small (M ++ [(snkN id frm, .slice (some ⟨w8.heap.size, 0, none⟩) 1 1, .slice none 0 0)]) := ⟨by have := HS.out.1; have := H.out.num; simp; omega, fun m hm => by
      rcases List.mem_append.1 hm with hm | hm
      · exact HS.out.2 m hm
      · rw [List.mem_singleton.1 hm]; simp [snkN]⟩
    have HC2 := gcheck_any A5 c5 w10.heap.size (n + 1) _ w10 HM10.out (Nat.le_refl _) hsm10
    obtain ⟨cv2, hcv2⟩ : ∃ v, v = checkN (L ++ [snkN id frm]) := ⟨_, rfl⟩
    rw [show fstN (M ++ [(snkN id frm, (.slice (some ⟨w8.heap.size, 0, none⟩) 1 1 : Value), (.slice none 0 0 : Value))]) = L ++ [snkN id frm] by simp [fstN, HL.out], ← hcv2] at HC2
    have HC2 := Lib.hid HC2
    have hiff : cv2 = 0 ↔ tb = false ∧ ob = true ∧ x2.kind ≠ 2 ∧ n ≤ 7 := by
      rw [hcv2, checkN_zero, grow_sink HR.out i1 i7, HTB.out, HOB.out, HX2.out, show L.length = n by rw [HL.out, H.out.num]; simp [fstN]]
      constructor
      · rintro ⟨a1, ⟨m, hm, hk⟩, a3⟩
        exact ⟨a1, by rw [hm]; rfl, by rw [getN_some hm]; exact hk, by omega⟩
      · rintro ⟨a1, a2, a3, a4⟩
        cases hm : findN L frm with
        | none => rw [hm] at a2; cases a2
        | some m => rw [getN_some hm] at a3; exact ⟨a1, ⟨m, rfl, a3⟩, by omega⟩
    have HIFF := Lib.hid hiff
    clear hown8 hg8 hat8 hown10 hg10 hat10 bs10 hsm10 hcv2 hiff f8 f10 HO7 ho7 hone RD fa7
    go_cut [71] (fun s71 wx => s71 = .bool false ∧ RowKit.Hid (Fr w.heap.size [] w wx))
    case first =>
      have q1 := BY10.out.cell 1
      simp at q1
      go_wp2_with fail
      refine HC2.out.mono ?_
      rintro e w11 ⟨rfl, f11⟩
      have F11 := Lib.hid (F10.out.trans (f11.mono (B' := w.heap.size) (L' := []) F10.out.size (by simp)))
      have q1b := (BY10.out.fr f11 BY10.out.lt (by simp)).cell 1
      simp at q1b
      clear f11 HC2 q1 F10 F6 BY BY10 HM10
      obtain ⟨kd, hkd⟩ : ∃ k, k = x2.kind := ⟨_, rfl⟩
      rw [← hkd] at q1b HIFF
      clear hkd
      have hcase : (tb = true ∧ (cv2 == 0) = false) ∨ (tb = false ∧ ob = false ∧ (cv2 == 0) = false) ∨ (tb = false ∧ ob = true ∧ (kd != 2) = false ∧ (cv2 == 0) = false) ∨ (tb = false ∧ ob = true ∧ (kd != 2) = true ∧ 7 < n ∧ (cv2 == 0) = false) ∨ (tb = false ∧ ob = true ∧ (kd != 2) = true ∧ n ≤ 7 ∧ cv2 = 0) := by
        have hI := HIFF.out
        cases tb with
        | true => left; refine ⟨rfl, ?_⟩; simp; intro e; have := (hI.1 e).1; cases this
        | false =>
          right
          cases ob with
          | false => left; refine ⟨rfl, rfl, ?_⟩; simp; intro e; have := (hI.1 e).2.1; cases this
          | true =>
            right
            by_cases k2 : kd = 2
            · left; refine ⟨rfl, rfl, by simp [k2], ?_⟩; simp; intro e; exact (hI.1 e).2.2.1 k2
            · right
              have hk : (kd != 2) = true := by simpa using k2
              by_cases h7 : n ≤ 7
              · right; exact ⟨rfl, rfl, hk, h7, hI.2 ⟨rfl, rfl, k2, h7⟩⟩
              · left; refine ⟨rfl, rfl, hk, by omega, ?_⟩; simp; intro e; exact h7 (hI.1 e).2.2.2
      clear HIFF
      rcases hcase with ⟨rfl, hc2⟩ | ⟨rfl, rfl, hc2⟩ | ⟨rfl, rfl, hk2, hc2⟩ | ⟨rfl, rfl, hk2, h7, hc2⟩ | ⟨rfl, rfl, hk2, h7, rfl⟩
      all_goals
        go_wp2_with fail
        go_meet
        refine ⟨?_, F11⟩
        first | rfl | (congr 1; simp; omega)
    case rest =>
      obtain ⟨rfl, F11⟩ := hcut
      clear HC2 F10 F6 BY BY10 HM10 HIFF
      go_wp2_with fail
      go_loopg [74] n (fun g s74 wr => ∃ k : Nat, k ≤ n ∧ g = n - k ∧ s74 = .int .i64 k ∧ RowKit.Hid (Fr w.heap.size [] w wr))
      case atStart => exact ⟨0, Nat.zero_le _, rfl, rfl, F11⟩
      case round =>
        obtain ⟨k, hk, rfl, rfl, FR⟩ := hrel
        by_cases hkn : k < n
        · have hki : (k : Int) < (n : Int) := by omega
          have hk0 : (0 : Int) ≤ (k : Int) := by omega
          obtain ⟨m, hx⟩ : ∃ m, M[k]? = some m := ⟨_, List.getElem?_eq_getElem (by rw [← H.out.num]; exact hkn)⟩
          have HND := H.out.frw FR.out (Nat.le_refl _) (by simp)
          obtain ⟨b1, o1, rfl, hb1, hc1⟩ := HND.get hx
          have hin := HND.inn m (List.mem_of_getElem? hx)
          have HX := Lib.hid (show L[k]? = some m.1 by rw [HL.out]; simp [fstN, hx])
          obtain ⟨x, sf, sp⟩ := m
          have FA := Lib.hid (FR.out.alloc FR.out.size (.cells (ndA x sf sp) 31))
          have BX := Lib.hid (Blk.new wr 31 (ndA x sf sp))
          obtain ⟨⟨Af, cf, hf1, _⟩, ⟨Ap, cp, hp1, _⟩⟩ := hin
          simp only at hf1 hp1 HX
          subst hf1
          subst hp1
          obtain ⟨g0, g1, g2, g3, g4, g5, g6, g7, g8, g9, g10, g11, g12⟩ := ndL_get (x, .slice Af x.fr.length cf, .slice Ap x.pg.length cp)
          have p0 := hc1 0 _ g0
          have p1 := hc1 1 _ g1
          have p2 := hc1 2 _ g2
          have p3 := hc1 3 _ g3
          have p4 := hc1 4 _ g4
          have p5 := hc1 5 _ g5
          have p6 := hc1 6 _ g6
          have p7 := hc1 7 _ g7
          have p8 := hc1 8 _ g8
          have p9 := hc1 9 _ g9
          have p10 := hc1 10 _ g10
          have p11 := hc1 11 _ g11
          have p12 := hc1 12 _ g12
          simp only [Nat.add_zero] at p0
          clear hc1 hx g0 g1 g2 g3 g4 g5 g6 g7 g8 g9 g10 g11 g12
          go_upto_region 13 with fail
          clear p0 p1 p2 p3 p4 p5 p6 p7 p8 p9 p10 p11 p12
          generalize wr.alloc (.cells (ndA x (.slice Af x.fr.length cf) (.slice Ap x.pg.length cp)) 31) = wa at *
          generalize wr.heap.size = gx at *
          have hkc : (k : Int) ≤ (c : Int) := by omega
          have hk1n : (k : Int) + 1 ≤ (n : Int) := by omega
          have hnc : (n : Int) ≤ (c : Int) := by omega
          have hk01 : (0 : Int) ≤ (k : Int) + 1 := by omega
          have hwr : IntKind.i64.wrap ((k : Int) + 1) = (k : Int) + 1 := by rw [IntKind.wrap_i64]; omega
          have HOW := Lib.hid (show (wa.alloc (.cells #[] 31)).drew.ownsRow wa.heap.size 31 13 (.slice (some ⟨wa.heap.size, 0, none⟩) 0 0) 0 [] from nowns_empty wa)
          have fw := ((Fr.refl wa.heap.size [] wa).alloc (Nat.le_refl _) (.cells #[] 31)).drew
          have HFW := Lib.hid fw
          have hone := Lib.hid (cellsN_one (M := M) fun m hm => (H.out.inn m hm).sl)
          have FW := FA.out.trans (fw.mono (B' := w.heap.size) (L' := []) FA.out.size (by simp))
          obtain ⟨RT, RD⟩ := nds_cut (H.out.frw FW (Nat.le_refl _) (by simp)) (show k < n from hkn)
          have RT := Lib.hid RT
          have RD := Lib.hid RD
          obtain ⟨Ad, had⟩ : ∃ Ad : Option Addr, Ad = if c = k + 1 then some ⟨b1, o1, none⟩ else some ⟨b1, o1 + (k + 1) * 13, none⟩ := ⟨_, rfl⟩
          have RD := Lib.hid (show Reads (wa.alloc (.cells #[] 31)).drew w.heap.size 13 Ad (n - (k + 1)) (cellsN (M.drop (k + 1))) by
            rw [had]
            split
            · have h0 : n - (k + 1) = 0 := by omega
              have hd : M.drop (k + 1) = [] := List.drop_eq_nil_of_le (by rw [← H.out.num]; omega)
              rw [h0, hd]
              exact ⟨rfl, fun h => absurd h (by omega)⟩
            · exact RD.out)
          clear fw FW
          go_region_held3 (fun _ => True) (trivial) ((first
            | (refine step_app (by rfl) (.tmp 79) (.tmp 82) nodeTy (by rfl) wa.heap.size (.slice (some ⟨wa.heap.size, 0, none⟩) 0 0) 0 [] (by rfl) HOW.out w.heap.size _ k _ (cellsN (M.take k)) (by rfl) RT.out (fun u hu => hone.out u (cellsN_take hu)) (by omega) (by omega) (by simp) ?_; intro A6 c6 w12 hown12 hg12 hat12; rw [Nat.zero_add] at hown12 hat12; simp only [Nat.zero_add]; rw [List.nil_append] at hown12; have f12 := (Fr.refl wa.heap.size [] (wa.alloc (.cells #[] 31)).drew).grown hg12 (by simp) (fun q hq => .inl (by simp [Value.ownBlock] at hq; omega)); have hs12 := f12.size; simp at hs12; have RD2 := Lib.hid (RD.out.fr f12 FA.out.size (by simp)))
            | (refine step_app (by rfl) (.tmp 83) (.tmp 87) nodeTy (by rfl) wa.heap.size (.slice A6 k c6) k _ (by rfl) hown12 w.heap.size Ad (n - (k + 1)) _ (cellsN (M.drop (k + 1))) (by rw [had]; rfl) RD2.out (fun u hu => hone.out u (cellsN_drop hu)) (by omega) (by omega) (by omega) ?_; intro A7 c7 w13 hown13 hg13 hat13; rw [show k + (n - (k + 1)) = n - 1 by omega] at hown13 hat13; rw [show k + (n - (k + 1)) = n - 1 by omega])))
          all_goals
            rw [← had]
            have f13 := ((HFW.out.trans (f12.mono (Nat.le_refl _) (by simp))).grown hg13 (by omega) (fun q hq => .inl (hown12.lt q hq).1))
            have F13 := Lib.hid (FA.out.trans (f13.mono (B' := w.heap.size) (L' := []) FA.out.size (by simp)))
            have BX13 := Lib.hid (BX.out.fr f13 BX.out.lt (by simp))
            have HM13 := Lib.hid (show Nds w13 w13.heap.size A7 (n - 1) (M.take k ++ M.drop (k + 1)) from nds_app (by rw [cellsN_app]; exact hown13) (fun m hm => by
              have hm2 : m ∈ M := by
                rcases List.mem_append.1 hm with h | h
                · exact List.mem_of_mem_take h
                · exact List.mem_of_mem_drop h
              exact ((H.out.inn m hm2).frw F13.out (Nat.le_refl _) (by simp)).more F13.out.size) (Nat.le_refl _) (by have := H.out.num; simp; omega))
            have hsm13 : Small (M.take k ++ M.drop (k + 1)) := ⟨by have := H.out.num; simp; omega, fun m hm => by
              have hm2 : m ∈ M := by
                rcases List.mem_append.1 hm with h | h
                · exact List.mem_of_mem_take h
                · exact List.mem_of_mem_drop h
              exact HS.out.2 m hm2⟩
            have HSM13 := Lib.hid hsm13
            obtain ⟨cv3, hcv3⟩ : ∃ v, v = checkN (L.take k ++ L.drop (k + 1)) := ⟨_, rfl⟩
            have hf13 : fstN (M.take k ++ M.drop (k + 1)) = L.take k ++ L.drop (k + 1) := by rw [HL.out]; simp [fstN]
            have HCK := Lib.hid (fun (wx : World) (hx : Fr w13.heap.size [] w13 wx) => (by rw [hcv3, ← hf13]; exact gcheck_any A7 c7 w13.heap.size (n - 1) _ wx (HM13.out.frw hx (Nat.le_refl _) (by simp)) hx.size HSM13.out : Calls Try.prog 16 #[.slice A7 (n - 1) c7] wx fun e w' => e = .returned (.int .i64 cv3) ∧ Fr wx.heap.size [] wx w'))
            obtain ⟨q, hq⟩ : ∃ q, q = (childN L x.id).length := ⟨_, rfl⟩
            have HCH := Lib.hid (fun (wx : World) (hx : Fr w13.heap.size [] w13 wx) => (by
              refine (children_any x.id (some ⟨b1, o1, none⟩) c w.heap.size n M wx (H.out.frw (F13.out.trans (hx.mono (B' := w.heap.size) (L' := []) F13.out.size (by simp))) (Nat.le_refl _) (by simp)) (Nat.le_trans F13.out.size hx.size) HS.out).mono ?_
              rintro e w' ⟨A8, c8, q8, hq8, rfl, _, f8⟩
              have : q8 = q := by rw [hq8, hq, HL.out]; rfl
              subst this
              exact ⟨A8, c8, rfl, f8⟩ : Calls Try.prog 18 #[.slice (some ⟨b1, o1, none⟩) n c, .int .i64 x.id] wx fun e w' => ∃ A8 c8, e = .returned (.slice A8 q c8) ∧ Fr wx.heap.size [] wx w'))
            have hiff : cv3 = 0 ↔ x.kind ≠ 0 ∧ q = 0 := by rw [hcv3, checkN_zero, less_node HR.out HX.out, hq]
            have hq8 : q ≤ 1000 := by
              rw [hq]
              have h1 := kidsN_le L x.id []
              have h2 : (childN L x.id).length = (kidsN L x.id []).length := (srt_perm _).length_eq
              have h3 : L.length = n := by rw [HL.out, H.out.num]; simp [fstN]
              simp at h1
              omega
            have b0 := BX13.out.cell 0
            have b1' := BX13.out.cell 1
            simp at b0 b1'
            have INV := Lib.hid (show Fr w13.heap.size [] w13 w13.drew ∧ w13.drew.cell? ⟨gx, 0, none⟩ = some (.int .i64 x.id) ∧ w13.drew.cell? ⟨gx, 1, none⟩ = some (.int .i64 x.kind) from ⟨(Fr.refl _ _ _).drew, b0, b1'⟩)
            have hgx : gx < w13.heap.size := BX13.out.lt
            clear hcv3 hq hf13 hsm13 hown12 hg12 hat12 hs12 f12 RD2 hown13 hg13 hat13 RT RD HOW HFW hone had hwr hkc hk1n hnc hk01 b0 b1' BX f13
            have hcase : ((x.kind != 0) = false ∧ (cv3 == 0) = false) ∨ ((x.kind != 0) = true ∧ ((q : Int) == 0) = false ∧ (cv3 == 0) = false) ∨ ((x.kind != 0) = true ∧ q = 0 ∧ cv3 = 0) := by
              by_cases k0 : x.kind = 0
              · left
                refine ⟨by simp [k0], ?_⟩
                simp
                intro e
                exact (hiff.1 e).1 k0
              · right
                have hk : (x.kind != 0) = true := by simpa using k0
                by_cases q0 : q = 0
                · exact .inr ⟨hk, q0, hiff.2 ⟨k0, q0⟩⟩
                · left
                  refine ⟨hk, by simp; omega, ?_⟩
                  simp
                  intro e
                  exact q0 (hiff.1 e).2
            clear hiff
            rcases hcase with ⟨hk0', hc3⟩ | ⟨hk0', hq0, hc3⟩ | ⟨hk0', rfl, rfl⟩
            · go_wp2_with fail
              have c1 := INV.out.2.2
              first
                | (go_region_with
                    (go_at_call 16; refine (HCK.out _ INV.out.1).mono ?_; rintro e w4 ⟨rfl, f4⟩; have INV := Lib.hid (show Fr w13.heap.size [] w13 w4 ∧ w4.cell? ⟨gx, 0, none⟩ = some (.int .i64 x.id) ∧ w4.cell? ⟨gx, 1, none⟩ = some (.int .i64 x.kind) from ⟨INV.out.1.trans (f4.mono INV.out.1.size (by simp)), (f4.cell (p := ⟨gx, 0, none⟩) (Nat.lt_of_lt_of_le hgx INV.out.1.size) (by simp)).trans INV.out.2.1, (f4.cell (p := ⟨gx, 1, none⟩) (Nat.lt_of_lt_of_le hgx INV.out.1.size) (by simp)).trans INV.out.2.2⟩); have c1 := INV.out.2.2; clear f4))
                | fail
              all_goals
                go_wp2_with fail
                go_roundg (n - (k + 1))
                case measure => omega
                case rel => exact ⟨k + 1, by omega, rfl, by go_num, Lib.hid (F13.out.trans (INV.out.1.mono (B' := w.heap.size) (L' := []) F13.out.size (by simp)))⟩
            · go_wp2_with fail
              go_region_held3 (fun wx => wx.cell? ⟨gx, 0, none⟩ = some (.int .i64 x.id) ∧ wx.cell? ⟨gx, 1, none⟩ = some (.int .i64 x.kind)) (exact ⟨INV.out.2.1, INV.out.2.2⟩)
                (first
                  | (go_at_call 16; refine (HCK.out _ INV.out.1).mono ?_; rintro e w4 ⟨rfl, f4⟩; have INV := Lib.hid (show Fr w13.heap.size [] w13 w4 ∧ w4.cell? ⟨gx, 0, none⟩ = some (.int .i64 x.id) ∧ w4.cell? ⟨gx, 1, none⟩ = some (.int .i64 x.kind) from ⟨INV.out.1.trans (f4.mono INV.out.1.size (by simp)), (f4.cell (p := ⟨gx, 0, none⟩) (Nat.lt_of_lt_of_le hgx INV.out.1.size) (by simp)).trans INV.out.2.1, (f4.cell (p := ⟨gx, 1, none⟩) (Nat.lt_of_lt_of_le hgx INV.out.1.size) (by simp)).trans INV.out.2.2⟩); clear f4)
                  | (go_at_call 18; refine (HCH.out _ INV.out.1).mono ?_; rintro e w4 ⟨A8, c8, rfl, f4⟩; have INV := Lib.hid (show Fr w13.heap.size [] w13 w4 ∧ w4.cell? ⟨gx, 0, none⟩ = some (.int .i64 x.id) ∧ w4.cell? ⟨gx, 1, none⟩ = some (.int .i64 x.kind) from ⟨INV.out.1.trans (f4.mono INV.out.1.size (by simp)), (f4.cell (p := ⟨gx, 0, none⟩) (Nat.lt_of_lt_of_le hgx INV.out.1.size) (by simp)).trans INV.out.2.1, (f4.cell (p := ⟨gx, 1, none⟩) (Nat.lt_of_lt_of_le hgx INV.out.1.size) (by simp)).trans INV.out.2.2⟩); clear f4))
              all_goals
                go_wp2_with fail
                go_roundg (n - (k + 1))
                case measure => omega
                case rel => exact ⟨k + 1, by omega, rfl, by go_num, Lib.hid (F13.out.trans (INV.out.1.mono (B' := w.heap.size) (L' := []) F13.out.size (by simp)))⟩
            · go_wp2_with fail
              go_region_held3 (fun wx => wx.cell? ⟨gx, 0, none⟩ = some (.int .i64 x.id) ∧ wx.cell? ⟨gx, 1, none⟩ = some (.int .i64 x.kind)) (exact ⟨INV.out.2.1, INV.out.2.2⟩)
                (first
                  | (go_at_call 16; refine (HCK.out _ INV.out.1).mono ?_; rintro e w4 ⟨rfl, f4⟩; have INV := Lib.hid (show Fr w13.heap.size [] w13 w4 ∧ w4.cell? ⟨gx, 0, none⟩ = some (.int .i64 x.id) ∧ w4.cell? ⟨gx, 1, none⟩ = some (.int .i64 x.kind) from ⟨INV.out.1.trans (f4.mono INV.out.1.size (by simp)), (f4.cell (p := ⟨gx, 0, none⟩) (Nat.lt_of_lt_of_le hgx INV.out.1.size) (by simp)).trans INV.out.2.1, (f4.cell (p := ⟨gx, 1, none⟩) (Nat.lt_of_lt_of_le hgx INV.out.1.size) (by simp)).trans INV.out.2.2⟩); clear f4)
                  | (go_at_call 18; refine (HCH.out _ INV.out.1).mono ?_; rintro e w4 ⟨A8, c8, rfl, f4⟩; have INV := Lib.hid (show Fr w13.heap.size [] w13 w4 ∧ w4.cell? ⟨gx, 0, none⟩ = some (.int .i64 x.id) ∧ w4.cell? ⟨gx, 1, none⟩ = some (.int .i64 x.kind) from ⟨INV.out.1.trans (f4.mono INV.out.1.size (by simp)), (f4.cell (p := ⟨gx, 0, none⟩) (Nat.lt_of_lt_of_le hgx INV.out.1.size) (by simp)).trans INV.out.2.1, (f4.cell (p := ⟨gx, 1, none⟩) (Nat.lt_of_lt_of_le hgx INV.out.1.size) (by simp)).trans INV.out.2.2⟩); clear f4))
              all_goals
                go_wp2_with fail
                go_roundg (n - (k + 1))
                case measure => omega
                case rel => exact ⟨k + 1, by omega, rfl, by go_num, Lib.hid (F13.out.trans (INV.out.1.mono (B' := w.heap.size) (L' := []) F13.out.size (by simp)))⟩
        · obtain rfl : k = n := by omega
          go_wp2_with fail
          go_ret
          exact ⟨rfl, FR.out.below⟩
end Go.Proofs.Ytjekpfcniamodaa
