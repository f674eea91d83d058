/- Texts merged into one, for the number of files a claim may have: TellB. -/
import Derived.Test.YtfakgidimekikaaGreatMJ
import Derived.Test.YtfakgidimekikaaGreatMJoin
import Derived.StillTailTactics
import Derived.WalkSmall
import Derived.Deep.RegionWith
import Derived.Deep.RegionHeld3
import Derived.Deep.DeepCutAuto
import Derived.Deep.CutBlock
import Derived.Laws.EntriesVeiled
import Derived.Deep.LoopGhost
namespace Go.Proofs.YtfakgidimekikaaGreat
open Go.RowKit Go.Fb
theorem grid_len (n : Nat) : (grid n).length = (n + 1) * 66 := by
  unfold grid
  rw [List.length_flatMap]
  simp [List.map_const', List.length_flatMap]
theorem left_le (n : Nat) (met : List Tri) : left n met ≤ (n + 1) * 66 := by
  rw [← grid_len n]
  exact List.length_filter_le _ _
/-- The state ahead of the depths' laying. -/
def startW : WS := ⟨fun _ => -1, 0, 0, false, false, [], [⟨0, 0, 0⟩]⟩
theorem TMem.grow {w0 : World} {k3 gm B k : Nat} {vD vT v' : Value} {W : WS} {w w2 : World} {o : Obj} (h : TMem w0 k3 gm B k vD vT W w) (hown : w2.ownsRow B 3 1 v' (k + 1) (intsL k W.D ++ [.int .i64 (W.D k)]))
    (hg : (w.alloc o).grownBy w2 vD.ownBlock) (hat : v'.ownBlock = vD.ownBlock ∨ v'.ownBlock = some (w.heap.size + 1)) : TMem w0 k3 gm B (k + 1) v' vT W (w2.setCell ⟨k3, 0, none⟩ v') := by
  have sz := h.sz
  have o1 := h.o1
  have o2 := h.o2
  have o3 := h.o3
  have lt0 := h.res.lt
  have lt1 := h.blk.lt
  have lt2 := h.map.lt
  have hD : ∀ q, vD.ownBlock = some q → B ≤ q := fun q hq => (h.dep.lt q hq).1
  have fa : Fr w.heap.size [] w (w.alloc o) := (Fr.refl _ _ _).alloc (Nat.le_refl _) _
  have hr := (h.res.fr fa lt0 (by simp)).grown hg (fun e => by have := hD _ e.symm; omega)
  have hb := ((h.blk.fr fa lt1 (by simp)).grown hg (fun e => by have := hD _ e.symm; omega)).set_ 0 v'
  have ht : w2.ownsRow B 191 3 vT W.todo.length (cellsT W.todo) := (h.todo.alloc o).kept hg (by
    cases hv : vT.ownBlock with
    | none => exact .inl rfl
    | some q => exact .inr (fun e => h.dis q e.symm hv))
  have f2 : Fr w0.heap.size [] w0 w2 := (h.fr.trans (fa.mono h.fr.size (by simp))).grown hg (by have := h.fr.size; simp; omega) (fun q hq => .inl (by have := hD q hq; omega))
  refine ⟨hr.far (p := ⟨k3, 0, none⟩) (by show w0.heap.size ≠ k3; omega) v', hb, ?_, ?_, ?_, ?_, f2.setCell (p := ⟨k3, 0, none⟩) (.inl (by show w0.heap.size ≤ k3; omega)) v', o1, o2, o3, ?_⟩
  · have fm : Fr B [] (w.alloc o) w2 := (Fr.refl _ _ _).grown hg (by simp; omega) (fun q hq => .inl (hD q hq))
    exact (((h.map.fr fa lt2 (by simp)).fr fm (by omega) (by simp))).fr ((Fr.refl w2.heap.size [k3] w2).setCell (p := ⟨k3, 0, none⟩) (.inr (by simp)) v') (by have := hg.size; simp at this; omega) (by simp; omega)
  · refine Go.Fb.ownsRow_setCell_other ?_ (p := ⟨k3, 0, none⟩) (fun e => ?_) v'
    · rw [intsL_succ]; exact hown
    · have := (hown.lt _ e).1
      simp at this; omega
  · refine Go.Fb.ownsRow_setCell_other ht (p := ⟨k3, 0, none⟩) (fun e => ?_) v'
    have := (ht.lt _ e).1
    simp at this; omega
  · intro q hq hT
    rcases hat with hat | hat
    · exact h.dis q (hat ▸ hq) hT
    · rw [hat] at hq
      injection hq with hq
      have := (h.todo.lt q hT).2
      omega
  · have := hg.size
    simp [World.setCell] at this ⊢
    omega
theorem TMem.meet {w0 : World} {k3 gm B n : Nat} {vD vT : Value} {W : WS} {w w' : World} {x : Tri} (h : TMem w0 k3 gm B n vD vT W w) (hmap : TriMap w' gm (W.met ++ [x])) (hf : Fr w.heap.size [gm] w w') : TMem w0 k3 gm B n vD vT { W with met := W.met ++ [x] } w' := by
  have o1 := h.o1
  have o2 := h.o2
  have o3 := h.o3
  exact ⟨h.res.fr hf h.res.lt (by simp; omega), h.blk.fr hf h.blk.lt (by simp; omega), hmap, ownsRow_fr h.dep hf (fun q hq => ⟨(h.dep.lt q hq).2, by have := (h.dep.lt q hq).1; simp; omega⟩), ownsRow_fr h.todo hf (fun q hq => ⟨(h.todo.lt q hq).2, by have := (h.todo.lt q hq).1; simp; omega⟩), h.dis, h.fr.trans (hf.mono h.fr.size (by simp; omega)), o1, o2, o3, Nat.le_trans h.sz hf.size⟩
/-- What the document's answer leaves. -/
def TellOut (l : List (Int × Int)) (w : World) (e : Ending) (w' : World) : Prop :=
  (∀ s, chkL l = some s → ∃ A c D, e = .returned (.agg (knC (.slice A l.length c) s.mx s.em s.u0 s.u1 true)) ∧ w'.ownsRow w.heap.size 3 1 (.slice A l.length c) l.length (intsL l.length D) ∧ ∀ k, k < l.length → D k = s.D k) ∧
  (chkL l = none → e = .returned (.agg (knC (.slice none 0 0) 0 0 false false false))) ∧ Fr w.heap.size [] w w'
set_option maxRecDepth 100000 in
set_option maxHeartbeats 16000000 in
theorem tell_any (A : Option Addr) (c : Nat) (l : List (Int × Int)) (w : World) (hr : Reads w w.heap.size 2 A l.length (cellsI l)) (hn : l.length ≤ maxLen) :
    Calls Tryz.prog 90 #[.slice A l.length c] w (TellOut l w) := by
  have f0 := (Fr.refl w.heap.size [] w).alloc (Nat.le_refl _) (.cells (knC (.slice none 0 0) 0 0 false false false) 155)
  have hft := rfits_any A c w.heap.size l (w.alloc (.cells (knC (.slice none 0 0) 0 0 false false false) 155)) (hr.fr f0 (Nat.le_refl _) (by simp)) (by simp) hn
  have hm := hn
  unfold maxLen at hm
  have HR := Lib.hid hr
  have HFI := Lib.hid (fitsB_iff (l := l))
  have CL := Lib.hid (show chkL l = if fitsB l = true then checkF l.length (pF l) l.length else none from rfl)
  have hfb := (by cases fitsB l; exact .inr rfl; exact .inl rfl : fitsB l = true ∨ fitsB l = false)
  clear hr hn f0
  rcases hfb with hfb | hfb
  case inr =>
    as_aux_lemma =>
    rw [hfb] at hft
    have HCL : RowKit.Hid (chkL l = none) := by rw [CL.out, hfb]; exact (rfl : (none : Option CS) = none)
    have HFT := Lib.hid hft
    clear hft hfb HFI CL
    go_enter Tryz.func90, Tryz.ntmps90
    go_wp2_with fail
    refine HFT.out.mono ?_
    rintro e w1 ⟨rfl, f1⟩
    have B1 := Lib.hid ((Blk.new w 155 (knC (.slice none 0 0) 0 0 false false false)).fr f1 (by simp) (by simp))
    have F1 := Lib.hid (((Fr.refl w.heap.size [] w).alloc (Nat.le_refl _) (.cells (knC (.slice none 0 0) 0 0 false false false) 155)).trans (f1.mono (B' := w.heap.size) (L' := []) (by simp) (by simp)))
    have hlt := B1.out.lt
    have c0 := B1.out.cell 0
    have c1 := B1.out.cell 1
    have c2 := B1.out.cell 2
    have c3 := B1.out.cell 3
    have c4 := B1.out.cell 4
    have c5 := B1.out.cell 5
    have z0 := B1.out.frozen 0
    have z1 := B1.out.frozen 1
    have z2 := B1.out.frozen 2
    have z3 := B1.out.frozen 3
    have z4 := B1.out.frozen 4
    have z5 := B1.out.frozen 5
    simp at c0 c1 c2 c3 c4 c5
    clear f1
    go_wp2_with fail
    refine bodyPost_ret (results_cell_row rfl _ _ w.heap.size 155 (knC (.slice none 0 0) 0 0 false false false) (0, 0) _ rfl ((blk_set6 B1.out _ _ _ _ _ _).alloc _) Tryz.underlying155 rfl (by kernel_rfl)) rfl ⟨(fun s h => by rw [HCL.out] at h; cases h), (fun _ => rfl), (fr_set6 F1.out (.inl (Nat.le_refl _)) _ _ _ _ _ _).alloc (fr_set6 F1.out (.inl (Nat.le_refl _)) _ _ _ _ _ _).size _⟩
    -- >>
  case inl =>
    rw [hfb] at hft
    obtain ⟨hn24, hri⟩ := HFI.out.1 hfb
    have HCL : RowKit.Hid (chkL l = checkF l.length (pF l) l.length) := by rw [CL.out, if_pos hfb]; exact (rfl : checkF l.length (pF l) l.length = _)
    have HRB := Lib.hid (fun k i (hx : l[k]? = some i) => hri i (List.mem_of_getElem? hx))
    have HFT := Lib.hid hft
    obtain ⟨n, hnl⟩ : ∃ n, n = l.length := ⟨_, rfl⟩
    have HN := Lib.hid hnl
    rw [← hnl] at hn24 HFT ⊢
    clear hft hfb HFI CL hri hm hnl
    have hmm := @run_makeMap Tryz.prog
    go_enter Tryz.func90, Tryz.ntmps90
    go_wp2_with fail
    refine HFT.out.mono ?_
    rintro e w1 ⟨rfl, f1⟩
    have B1 := Lib.hid ((Blk.new w 155 (knC (.slice none 0 0) 0 0 false false false)).fr f1 (by simp) (by simp))
    have F1 := Lib.hid (((Fr.refl w.heap.size [] w).alloc (Nat.le_refl _) (.cells (knC (.slice none 0 0) 0 0 false false false) 155)).trans (f1.mono (B' := w.heap.size) (L' := []) (by simp) (by simp)))
    have hlt := B1.out.lt
    clear f1 HFT
    go_upto_region 6 with fail
    have MEM0 : RowKit.Hid (TMem w w1.heap.size (w1.heap.size + 1) (w1.heap.size + 2) 0 (.slice none 0 0) (.slice (some ⟨w1.heap.size + 2, 0, none⟩) 1 1) startW (((w1.alloc (.cells (knC (.slice none 0 0) 0 0 false false true) 155)).alloc (.map #[] 0)).alloc (.cells #[.int .i64 0, .int .i64 0, .int .i64 0] 191))) := by
      obtain ⟨x1, x2, x3, x4⟩ := heap3 w1 (.cells (knC (.slice none 0 0) 0 0 false false true) 155) (.map #[] 0) (.cells #[.int .i64 0, .int .i64 0, .int .i64 0] 191)
      have x4' : Fr w1.heap.size [] w1 (((w1.alloc (.cells (knC (.slice none 0 0) 0 0 false false true) 155)).alloc (.map #[] 0)).alloc (.cells #[.int .i64 0, .int .i64 0, .int .i64 0] 191)) := ⟨x4.os, x4.tape, x4.output, x4.size, x4.block⟩
      refine ⟨B1.out.fr x4' B1.out.lt (by simp), x1, ⟨#[], 0, x2, rfl⟩, World.ownsRow_nil _ _ _ _, ⟨rfl, .inr ⟨w1.heap.size + 2, 1, #[.int .i64 0, .int .i64 0, .int .i64 0], rfl, Nat.le_refl _, x3, by simp [startW, maxLen, cellsT, triC]⟩⟩, fun q hq => by simp [Value.ownBlock] at hq, F1.out.trans (x4'.mono F1.out.size (by simp)), hlt, by omega, by omega, by simp⟩
    clear B1 F1 hlt hmm
    generalize ((w1.alloc _).alloc _).alloc _ = w2 at *
    generalize w1.heap.size = k3 at *
    go_wp2_with fail
    go_loopw [6] (fun i wr => ∃ (k : Nat) (A1 : Option Addr) (c1 : Nat), k ≤ n ∧ i = .int .i64 k ∧ RowKit.Hid (TMem w k3 (k3 + 1) (k3 + 2) k (.slice A1 k c1) (.slice (some ⟨k3 + 2, 0, none⟩) 1 1) startW wr)) (fun i _ => n - (intOf i).toNat)
    case atStart => exact ⟨0, none, 0, Nat.zero_le _, rfl, MEM0⟩
    case round =>
      clear MEM0
      obtain ⟨k, A1, c1, hk, rfl, M⟩ := hrel
      have sz := M.out.sz
      by_cases hlt : k < n
      ·
        as_aux_lemma =>
        have hki : (k : Int) < (n : Int) := by omega
        have x0 := M.out.blk.cell 0
        have z0 := M.out.blk.frozen 0
        simp at x0
        have hdep := M.out.dep
        have hk3 := M.out.blk.lt
        go_upto_region 8 with (at_builtin; refine wpList_app_lit _ rfl (.tmp 28) (.tmp 29) dintTy rfl (k3 + 2) (.slice A1 k c1) k _ rfl hdep 1 1 _ rfl rfl (by simp [Value.oneCell']) (by omega) (by omega) (by omega) ?_; intro A2 c2 w3 hown2 hg2 hat2; have hs3 := hg2.size; have y0 : w3.cell? ⟨k3, 0, none⟩ = some (.slice A1 k c1) := (hg2.cell_far ⟨k3, 0, none⟩ (by simp; omega) (fun e => by have := (hdep.lt _ e.symm).1; simp at this; omega)).trans (((M.out.blk.alloc _).cell 0).trans (by simp)); have v0 : w3.frozen? ⟨k3, 0, none⟩ = false := (hg2.frozen_far ⟨k3, 0, none⟩ (by simp; omega) (fun e => by have := (hdep.lt _ e.symm).1; simp at this; omega)).trans ((M.out.blk.alloc _).frozen 0))
        have M3 := Lib.hid (M.out.grow hown2 hg2 hat2)
        clear hown2 hg2 hat2 hdep hs3 y0 v0 x0 z0
        go_wp2_with fail
        go_roundw
        case rel => exact ⟨k + 1, A2, c2, by omega, by go_num, M3⟩
        case measure => simp [intOf]; omega
        -- >>
      · obtain rfl : n = k := by omega
        have HGT := Lib.hid (fun k (hk : k < n) => (fun t ht => (nextsF_gt hk (HRB.out k (pF l k) (by rw [pF, List.getD_eq_getElem?_getD, List.getElem?_eq_getElem (by rw [← HN.out]; exact hk)]; rfl)) t ht).1 : ∀ t ∈ nextsF n k (pF l k), k < t))
        go_wp2_with fail
        go_loopg [5, 7, 9, 10] (2 * left n [] + 1) (fun g s5 s7 s9 s10 wr => ∃ (W : WS) (At : Option Addr) (ct : Nat), g = 2 * left n W.met + W.todo.length ∧ 2 * left n W.met + W.todo.length ≤ 3301 ∧ s5 = .slice At W.todo.length ct ∧ (s7 = undef ∨ ∃ a, s7 = .pointer a) ∧ (s9 = undef ∨ ∃ a, s9 = .pointer a) ∧ (s10 = undef ∨ ∃ a, s10 = .pointer a) ∧ RowKit.Hid (WRun n (pF l) W) ∧ RowKit.Hid (TMem w k3 (k3 + 1) (k3 + 2) n (.slice A1 n c1) (.slice At W.todo.length ct) W wr))
        case atStart => exact ⟨startW, some ⟨k3 + 2, 0, none⟩, 1, rfl, (by have := left_le n []; show 2 * left n [] + 1 ≤ 3301; omega), rfl, .inl rfl, .inl rfl, .inl rfl, WRun.start, M⟩
        case round =>
          clear M
          obtain ⟨W, At, ct, rfl, hbd, rfl, hs7, hs9, hs10, HW, M⟩ := hrel
          rcases List.eq_nil_or_concat W.todo with hT | ⟨td, x, hT⟩
          ·
            as_aux_lemma =>
            have hlen : W.todo.length = 0 := by rw [hT]; rfl
            have HT := Lib.hid hT
            rw [hlen]
            obtain ⟨s, hcs, hD, hmx, hem, hu0, hu1⟩ := tell_end HGT.out HW.out hT
            have HCS := Lib.hid (show chkL l = some s by rw [HCL.out, ← HN.out]; exact hcs)
            have HD := Lib.hid hD
            have v0 := M.out.blk.cell 0
            have v1 := M.out.blk.cell 1
            have v2 := M.out.blk.cell 2
            have v3 := M.out.blk.cell 3
            have v4 := M.out.blk.cell 4
            have v5 := M.out.blk.cell 5
            have c0 := M.out.res.cell 0
            have c1' := M.out.res.cell 1
            have c2 := M.out.res.cell 2
            have c3 := M.out.res.cell 3
            have c4 := M.out.res.cell 4
            have c5 := M.out.res.cell 5
            have z0 := M.out.res.frozen 0
            have z1 := M.out.res.frozen 1
            have z2 := M.out.res.frozen 2
            have z3 := M.out.res.frozen 3
            have z4 := M.out.res.frozen 4
            have z5 := M.out.res.frozen 5
            simp at v0 v1 v2 v3 v4 v5 c0 c1' c2 c3 c4 c5
            rw [hmx] at v1
            rw [hem] at v2
            rw [hu0] at v3
            rw [hu1] at v4
            clear hT hlen hcs hD hmx hem hu0 hu1 hbd
            go_wp2_with fail
            refine bodyPost_ret (results_cell_row rfl _ _ w.heap.size 155 (knC (.slice A1 n c1) s.mx s.em s.u0 s.u1 true) (0, 0) _ rfl (blk_set6 M.out.res _ _ _ _ _ _) Tryz.underlying155 rfl (by kernel_rfl)) rfl ⟨(fun s' h => ?_), (fun h => by rw [HCS.out] at h; cases h), fr_set6 M.out.fr (.inl (Nat.le_refl _)) _ _ _ _ _ _⟩
            rw [HCS.out] at h
            injection h with h
            subst h
            refine ⟨A1, c1, W.D, by rw [HN.out], ?_, by rw [← HN.out]; exact HD.out⟩
            rw [← HN.out]
            have o1 := M.out.o1
            refine ownsRow_base (base := k3 + 2) (ownsRow_fr M.out.dep (fr_set6 (Fr.refl wr.heap.size [w.heap.size] wr) (.inr (by simp)) _ _ _ _ _ _) (fun q hq => ?_)) (by omega)
            have := M.out.dep.lt q hq
            exact ⟨this.2, by simp; omega⟩
            -- >>
          · rw [List.concat_eq_append] at hT
            have hlen : W.todo.length = td.length + 1 := by rw [hT]; simp
            have HT := Lib.hid hT
            obtain ⟨m, hm⟩ : ∃ m, m = td.length := ⟨_, rfl⟩
            have HM := Lib.hid hm
            have hown := M.out.todo
            rw [hlen, hT] at hown
            rw [hlen, ← hm]
            rw [← hm] at hown
            have hcap : m + 1 ≤ ct := by
              obtain ⟨_, _, hs, _, hle, _⟩ := ownsRow_shape hown
              injection hs with _ _ hs
              omega
            obtain ⟨gt, cap, hv, hbg, hg2⟩ := hown.form (by omega)
            have hA : At = some ⟨gt, 0, none⟩ := by injection hv
            subst hA
            obtain ⟨bq, oq, hbq, _, hcc⟩ := (Reads.of_own hown).2 (by omega)
            injection hbq with hbq
            injection hbq with hbq1 hbq2
            subst hbq1 hbq2
            obtain ⟨y0, y1, y2⟩ := cellsT_last td x
            have p0 := hcc _ _ y0
            have p1 := hcc _ _ y1
            have p2 := hcc _ _ y2
            rw [← hm, Nat.zero_add] at p0 p1 p2
            have hpop : wr.ownsRow (k3 + 2) 191 3 (.slice (some ⟨gt, 0, none⟩) m ct) m (cellsT td) := ownsRow_pop (last := triC x) (by rw [cellsT_length, hm]) (by rw [cellsT_app] at hown; simpa [cellsT] using hown)
            have hm3 : m ≤ 3300 := by omega
            have MP : RowKit.Hid (TMem w k3 (k3 + 1) (k3 + 2) n (.slice A1 n c1) (.slice (some ⟨gt, 0, none⟩) m ct) { W with todo := td } wr) :=
              ⟨M.out.res, M.out.blk, M.out.map, M.out.dep, (by show wr.ownsRow _ _ _ _ td.length (cellsT td); rw [← hm]; exact hpop), (fun q hq he => M.out.dis q hq (by rw [hlen]; exact he)), M.out.fr, M.out.o1, M.out.o2, M.out.o3, M.out.sz⟩
            have hmi : IntKind.i64.wrap ((m : Int) + 1 - 1) = (m : Int) := by rw [IntKind.wrap_i64]; omega
            have hgm : m < m + 1 := by omega
            clear hv hown hcc y0 y1 y2 hpop hm hT hlen M
            have HGX := Lib.hid hg2
            go_upto_region 13 with fail
            have hcx := Blk.new wr 191 #[.int .i64 x.at_, .int .i64 x.d, .int .i64 x.e]
            have fx := (Fr.refl wr.heap.size [] wr).alloc (Nat.le_refl _) (.cells #[.int .i64 x.at_, .int .i64 x.d, .int .i64 x.e] 191)
            have M1 := Lib.hid (MP.out.keep fx)
            have hsz : (wr.alloc (.cells #[.int .i64 x.at_, .int .i64 x.d, .int .i64 x.e] 191)).heap.size = wr.heap.size + 1 := by simp
            have hgx : k3 + 2 ≤ wr.heap.size := MP.out.sz
            have HX1 := Lib.hid hcx
            have hxlt := hcx.lt
            clear fx hcx p0 p1 p2 hmi hgm MP hg2 hsz
            generalize wr.alloc (.cells #[.int .i64 x.at_, .int .i64 x.d, .int .i64 x.e] 191) = wa at *
            generalize wr.heap.size = gx at *
            have hlk := M1.out.map.look x
            have q0 := HX1.out.cell 0
            have q1 := HX1.out.cell 1
            have q2 := HX1.out.cell 2
            simp at q0 q1 q2
            by_cases hmet : x ∈ W.met
            ·
              as_aux_lemma =>
              rw [decide_eq_true hmet] at hlk
              have HMT := Lib.hid hmet
              clear hmet
              go_wp2_with fail
              go_roundg (2 * left n W.met + td.length)
              case measure => rw [HT.out]; simp
              case rel => exact ⟨{ W with todo := td }, some ⟨gt, 0, none⟩, ct, rfl, (by rw [HT.out] at hbd; simp at hbd; show 2 * left n W.met + td.length ≤ 3301; omega), (by rw [HM.out]), .inr ⟨_, rfl⟩, hs9, hs10, WRun.skip HW.out HT.out HMT.out, (by show TMem _ _ _ _ _ _ (.slice _ td.length _) _ _; rw [← HM.out]; exact M1.out)⟩
              -- >>
            · rw [decide_eq_false hmet] at hlk
              have HMT := Lib.hid hmet
              obtain ⟨wb, hst, hmap, hfb⟩ := M1.out.map.store HMT.out
              have M2 := Lib.hid (M1.out.meet hmap hfb)
              have HX2 := Lib.hid (HX1.out.fr hfb HX1.out.lt (by simp; omega))
              have hxlt2 := HX2.out.lt
              clear hmet hmap hfb
              have e1 := HX2.out.cell 1
              have e2 := HX2.out.cell 2
              have k1 := M2.out.blk.cell 1
              have k2 := M2.out.blk.cell 2
              have z1 := M2.out.blk.frozen 1
              have z2 := M2.out.blk.frozen 2
              simp at e1 e2 k1 k2
              have hg0 : 2 * left n (W.met ++ [x]) + 2 ≤ 2 * left n W.met := by
                have := left_step HW.out (by rw [HT.out]; simp : x ∈ W.todo) HMT.out
                omega
              have hk3g : k3 ≠ gx := by omega
              go_upto_if 55 with fail
              go_cut [6] (fun s6 wx => s6 = .int .i64 n ∧ RowKit.Hid (TMem w k3 (k3 + 1) (k3 + 2) n (.slice A1 n c1) (.slice (some ⟨gt, 0, none⟩) m ct) { W with todo := td, met := W.met ++ [x], mx := max W.mx x.d } wx) ∧ RowKit.Hid (Blk wx gx 191 #[.int .i64 x.at_, .int .i64 x.d, .int .i64 x.e]))
              case first =>
                as_aux_lemma =>
                by_cases hgt : W.mx < x.d
                · go_wp2_with fail
                  go_meet
                  exact ⟨rfl, M2.out.setK (W' := { W with todo := td, met := W.met ++ [x], mx := max W.mx x.d }) 1 (.int .i64 x.d) rfl rfl rfl (by show knC _ x.d _ _ _ _ = knC _ (max W.mx x.d) _ _ _ _; rw [show max W.mx x.d = x.d by omega]), HX2.out.far (p := ⟨k3, 1, none⟩) (by show gx ≠ k3; omega) _⟩
                · go_wp2_with fail
                  go_meet
                  exact ⟨rfl, (by rw [show max W.mx x.d = W.mx by omega]; exact M2.out), HX2.out⟩
                -- >>
              case rest =>
                obtain ⟨rfl, M3, HX3⟩ := hcut
                clear M1 M2 HX1 HX2 hlk q0 q1 q2 e1 e2 k1 k2 z1 z2 hxlt hxlt2
                have e1 := HX3.out.cell 1
                have e2 := HX3.out.cell 2
                have k2 := M3.out.blk.cell 2
                have z2 := M3.out.blk.frozen 2
                simp at e1 e2 k2
                go_upto_if 63 with fail
                go_cut [6] (fun s6 wx => s6 = .int .i64 n ∧ RowKit.Hid (TMem w k3 (k3 + 1) (k3 + 2) n (.slice A1 n c1) (.slice (some ⟨gt, 0, none⟩) m ct) { W with todo := td, met := W.met ++ [x], mx := max W.mx x.d, em := max W.em x.e } wx) ∧ RowKit.Hid (Blk wx gx 191 #[.int .i64 x.at_, .int .i64 x.d, .int .i64 x.e]))
                case first =>
                  as_aux_lemma =>
                  by_cases hgt : W.em < x.e
                  · go_wp2_with fail
                    go_meet
                    exact ⟨rfl, M3.out.setK (W' := { W with todo := td, met := W.met ++ [x], mx := max W.mx x.d, em := max W.em x.e }) 2 (.int .i64 x.e) rfl rfl rfl (by show knC _ _ x.e _ _ _ = knC _ _ (max W.em x.e) _ _ _; rw [show max W.em x.e = x.e by omega]), HX3.out.far (p := ⟨k3, 2, none⟩) (by show gx ≠ k3; omega) _⟩
                  · go_wp2_with fail
                    go_meet
                    exact ⟨rfl, (by rw [show max W.em x.e = W.em by omega]; exact M3.out), HX3.out⟩
                  -- >>
                case rest =>
                  obtain ⟨rfl, M4, HX4⟩ := hcut
                  clear M3 HX3 e1 e2 k2 z2 hst
                  have hxr := (HW.out.inv.reach x (.inr (by rw [HT.out]; simp))).2
                  have e0 := HX4.out.cell 0
                  have e1 := HX4.out.cell 1
                  have e2 := HX4.out.cell 2
                  simp at e0 e1 e2
                  have hx0 := M4.out.res.cell 0
                  have hx1 := M4.out.res.cell 1
                  have hx2 := M4.out.res.cell 2
                  have hx3 := M4.out.res.cell 3
                  have hx4 := M4.out.res.cell 4
                  have hx5 := M4.out.res.cell 5
                  have hz0 := M4.out.res.frozen 0
                  have hz1 := M4.out.res.frozen 1
                  have hz2 := M4.out.res.frozen 2
                  have hz3 := M4.out.res.frozen 3
                  have hz4 := M4.out.res.frozen 4
                  have hz5 := M4.out.res.frozen 5
                  simp at hx0 hx1 hx2 hx3 hx4 hx5
                  have BRK := Lib.hid (fun hb => (by rw [HCL.out, ← HN.out]; exact tell_break HGT.out HW.out (by rw [HT.out]; simp) hb : chkL l = none) : (8 < x.d ∨ 4 < x.e ∨ (x.at_ < n ∧ 0 ≤ W.D x.at_ ∧ W.D x.at_ ≠ x.d) ∨ (x.at_ < n ∧ x.d < takesF (pF l x.at_).1)) → chkL l = none)
                  by_cases hd8 : 8 < x.d
                  ·
                    as_aux_lemma =>
                    have HNO := Lib.hid (BRK.out (.inl hd8))
                    go_wp2_with fail
                    refine bodyPost_ret (results_cell_row rfl _ _ w.heap.size 155 (knC (.slice none 0 0) 0 0 false false false) (0, 0) _ rfl (blk_set6 M4.out.res _ _ _ _ _ _) Tryz.underlying155 rfl (by kernel_rfl)) rfl ⟨(fun s h => by rw [HNO.out] at h; cases h), (fun _ => rfl), fr_set6 M4.out.fr (.inl (Nat.le_refl _)) _ _ _ _ _ _⟩
                    -- >>
                  by_cases he4 : 4 < x.e
                  ·
                    as_aux_lemma =>
                    have HNO := Lib.hid (BRK.out (.inr (.inl he4)))
                    go_wp2_with fail
                    refine bodyPost_ret (results_cell_row rfl _ _ w.heap.size 155 (knC (.slice none 0 0) 0 0 false false false) (0, 0) _ rfl (blk_set6 M4.out.res _ _ _ _ _ _) Tryz.underlying155 rfl (by kernel_rfl)) rfl ⟨(fun s h => by rw [HNO.out] at h; cases h), (fun _ => rfl), fr_set6 M4.out.fr (.inl (Nat.le_refl _)) _ _ _ _ _ _⟩
                    -- >>
                  have hd8' : x.d ≤ 8 := by omega
                  have he4' : x.e ≤ 4 := by omega
                  by_cases hat : n ≤ x.at_
                  ·
                    as_aux_lemma =>
                    have hati : (n : Int) ≤ (x.at_ : Int) := by omega
                    clear hx0 hx1 hx2 hx3 hx4 hx5 hz0 hz1 hz2 hz3 hz4 hz5
                    go_wp2_with fail
                    go_roundg (2 * left n (W.met ++ [x]) + td.length)
                    case measure => rw [HT.out]; simp; omega
                    case rel => exact ⟨{ W with todo := td, met := W.met ++ [x], mx := max W.mx x.d, em := max W.em x.e }, some ⟨gt, 0, none⟩, ct, rfl, (by rw [HT.out] at hbd; simp at hbd; show 2 * left n (W.met ++ [x]) + td.length ≤ 3301; omega), (by rw [HM.out]), .inr ⟨_, rfl⟩, hs9, hs10, WRun.out HW.out HT.out HMT.out hd8' he4' hat, (by show TMem _ _ _ _ _ _ (.slice _ td.length _) _ _; rw [← HM.out]; exact M4.out)⟩
                    -- >>
                  · have hatn : x.at_ < n := by omega
                    have hati : (x.at_ : Int) < (n : Int) := by omega
                    clear hat
                    have hdep := M4.out.dep
                    obtain ⟨gd, capd, hvd, hbgd, hgd2⟩ := hdep.form (by omega)
                    have hA1 : A1 = some ⟨gd, 0, none⟩ := by injection hvd
                    subst hA1
                    obtain ⟨bq, oq, hbq, _, hcc⟩ := (Reads.of_own hdep).2 (by omega)
                    injection hbq with hbq
                    injection hbq with hbq1 hbq2
                    subst hbq1 hbq2
                    have cd := hcc _ _ (intsL_get W.D hatn)
                    rw [Nat.zero_add] at cd
                    have k0 := M4.out.blk.cell 0
                    simp at k0
                    clear hvd hcc hdep
                    by_cases hconf : 0 ≤ W.D x.at_ ∧ W.D x.at_ ≠ x.d
                    ·
                      as_aux_lemma =>
                      have HNO := Lib.hid (BRK.out (.inr (.inr (.inl ⟨hatn, hconf.1, hconf.2⟩))))
                      have hq1 : decide (0 ≤ W.D x.at_) = true := decide_eq_true hconf.1
                      have hq2 : (W.D x.at_ != x.d) = true := by simpa using hconf.2
                      clear hconf BRK
                      go_wp2_with fail
                      go_quiet (fail)
                      have M5 := Lib.hid (M4.out.keep ((Fr.refl _ _ _).drewN nq))
                      go_wp2_with fail
                      refine bodyPost_ret (results_cell_row rfl _ _ w.heap.size 155 (knC (.slice none 0 0) 0 0 false false false) (0, 0) _ rfl (blk_set6 M5.out.res _ _ _ _ _ _) Tryz.underlying155 rfl (by kernel_rfl)) rfl ⟨(fun s h => by rw [HNO.out] at h; cases h), (fun _ => rfl), fr_set6 M5.out.fr (.inl (Nat.le_refl _)) _ _ _ _ _ _⟩
                      -- >>
                    · go_upto_region 22 with fail
                      go_cut [6, 98] (fun s6 s98 wx => s6 = .int .i64 n ∧ s98 = .bool false ∧ ∃ q, wx = wc.drewN q)
                      case first =>
                        as_aux_lemma =>
                        rcases (show W.D x.at_ < 0 ∨ W.D x.at_ = x.d by omega) with hc1 | hc1
                        · have hq1 : decide (0 ≤ W.D x.at_) = false := decide_eq_false (by omega)
                          go_quiet (fail)
                          go_wp2_with fail
                          go_meet
                          exact ⟨rfl, rfl, _, rfl⟩
                        · have hq1 : decide (0 ≤ W.D x.at_) = true := decide_eq_true (by omega)
                          have hq2 : (W.D x.at_ != x.d) = false := by simp [hc1]
                          go_quiet (fail)
                          go_wp2_with fail
                          go_meet
                          exact ⟨rfl, rfl, _, rfl⟩
                        -- >>
                      case rest =>
                        obtain ⟨rfl, rfl, q, rfl⟩ := hcut
                        obtain ⟨i, hi⟩ : ∃ i, i = pF l x.at_ := ⟨_, rfl⟩
                        have hxi : l[x.at_]? = some i := by
                          rw [hi, pF, List.getD_eq_getElem?_getD, List.getElem?_eq_getElem (by rw [← HN.out]; exact hatn)]; rfl
                        have HXI := Lib.hid hxi
                        have HI := Lib.hid hi
                        have hri := HRB.out _ _ hxi
                        obtain ⟨r1, r2, r3, r4, r5, r6⟩ := right_range hri
                        rw [← hi] at BRK
                        have HCF := Lib.hid hconf
                        have M5 := Lib.hid (M4.out.keep ((Fr.refl _ _ _).drewN q))
                        have HX5 := Lib.hid (HX4.out.fr ((Fr.refl wc.heap.size [] wc).drewN q) HX4.out.lt (by simp))
                        have hdx : some gx ≠ Value.ownBlock (.slice (some ⟨gd, 0, none⟩) n c1) := HX5.out.ne_own M5.out.dep (by decide)
                        have hdx2 : gd ≠ gx := fun e => hdx (by rw [e]; rfl)
                        clear hi hxi hri hconf hdx M4 HX4 e0 e1 e2 hx0 hx1 hx2 hx3 hx4 hx5 hz0 hz1 hz2 hz3 hz4 hz5 cd k0
                        generalize wc.drewN q = wd at *
                        have e0 := HX5.out.cell 0
                        have e1 := HX5.out.cell 1
                        have e2 := HX5.out.cell 2
                        have k0 := M5.out.blk.cell 0
                        have kd := own_frozen M5.out.dep x.at_
                        have cd := (Reads.of_own M5.out.dep).2 (by omega)
                        simp at e0 e1 e2 k0
                        have cd : wd.cell? ⟨gd, x.at_, none⟩ = some (.int .i64 (W.D x.at_)) := by
                          obtain ⟨b, off, hb, _, hc⟩ := cd
                          injection hb with hb
                          injection hb with hb1 hb2
                          subst hb1 hb2
                          have := hc _ _ (intsL_get W.D hatn)
                          rwa [Nat.zero_add] at this
                        go_upto_region 25 with fail
                        have M6 := Lib.hid (M5.out.setD x.at_ x.d)
                        have HX6 := Lib.hid (HX5.out.far (p := ⟨gd, x.at_, none⟩) (by show gx ≠ gd; exact fun e => hdx2 e.symm) (.int .i64 x.d))
                        clear M5 HX5 e0 e1 e2 k0 kd cd
                        generalize wd.setCell ⟨gd, x.at_, none⟩ (.int .i64 x.d) = we at *
                        obtain ⟨bb, off, hAe, hbb, p1, p2⟩ := reads_ins (HR.out.fr M6.out.fr (Nat.le_refl _) (by simp)) HXI.out
                        subst hAe
                        have e0 := HX6.out.cell 0
                        have e1 := HX6.out.cell 1
                        have e2 := HX6.out.cell 2
                        simp at e0 e1 e2
                        clear hdx2
                        go_upto_region 26 with fail
                        go_cut [6, 8, 117] (fun s6 s8 s117 wx => s6 = .int .i64 n ∧ s8 = .int .i64 i.1 ∧ s117 = .bool (decide (x.d < takesF i.1)) ∧ ∃ q, wx = we.drewN q)
                        case first =>
                          as_aux_lemma =>
                          go_region_with (first | (go_at_call 129; refine (take_any _ ⟨r1, r2⟩ _).mono ?_; rintro e w' ⟨rfl, rfl⟩))
                          all_goals
                            go_wp2_with fail
                            go_meet
                            exact ⟨rfl, rfl, rfl, 1, rfl⟩
                          -- >>
                        case rest =>
                          obtain ⟨rfl, rfl, rfl, q, rfl⟩ := hcut
                          have M7 := Lib.hid (M6.out.keep ((Fr.refl _ _ _).drewN q))
                          have HX7 := Lib.hid (HX6.out.fr ((Fr.refl we.heap.size [] we).drewN q) HX6.out.lt (by simp))
                          clear M6 HX6 e0 e1 e2 p1 p2
                          generalize we.drewN q = wf at *
                          by_cases htk : x.d < takesF i.1
                          ·
                            as_aux_lemma =>
                            have HNO := Lib.hid (BRK.out (.inr (.inr (.inr ⟨hatn, htk⟩))))
                            have hx0 := M7.out.res.cell 0
                            have hx1 := M7.out.res.cell 1
                            have hx2 := M7.out.res.cell 2
                            have hx3 := M7.out.res.cell 3
                            have hx4 := M7.out.res.cell 4
                            have hx5 := M7.out.res.cell 5
                            have hz0 := M7.out.res.frozen 0
                            have hz1 := M7.out.res.frozen 1
                            have hz2 := M7.out.res.frozen 2
                            have hz3 := M7.out.res.frozen 3
                            have hz4 := M7.out.res.frozen 4
                            have hz5 := M7.out.res.frozen 5
                            simp at hx0 hx1 hx2 hx3 hx4 hx5
                            rw [decide_eq_true htk]
                            clear htk BRK
                            go_wp2_with fail
                            refine bodyPost_ret (results_cell_row rfl _ _ w.heap.size 155 (knC (.slice none 0 0) 0 0 false false false) (0, 0) _ rfl (blk_set6 M7.out.res _ _ _ _ _ _) Tryz.underlying155 rfl (by kernel_rfl)) rfl ⟨(fun s h => by rw [HNO.out] at h; cases h), (fun _ => rfl), fr_set6 M7.out.fr (.inl (Nat.le_refl _)) _ _ _ _ _ _⟩
                            -- >>
                          have htk' : takesF i.1 ≤ x.d := by omega
                          rw [decide_eq_false htk]
                          clear htk
                          obtain ⟨bb, off, hAe, hbb, p1, p2⟩ := reads_ins (HR.out.fr M7.out.fr (Nat.le_refl _) (by simp)) HXI.out
                          have e0 := HX7.out.cell 0
                          have k3' := M7.out.blk.cell 3
                          have k4 := M7.out.blk.cell 4
                          have z3 := M7.out.blk.frozen 3
                          have z4 := M7.out.blk.frozen 4
                          simp at e0 k3' k4
                          have HAE := Lib.hid hAe
                          injection hAe with hAe
                          injection hAe with hAe1 hAe2
                          subst hAe1 hAe2
                          go_upto_region 28 with fail
                          go_cut [6, 8, 124] (fun s6 s8 s124 wx => s6 = .int .i64 n ∧ s8 = .int .i64 i.1 ∧ s124 = .bool (decide (i.1 = 4 ∨ i.1 = 5)) ∧ wx = wf)
                          case first =>
                            as_aux_lemma =>
                            by_cases h4 : i.1 = 4
                            · have b4 : (i.1 == 4) = true := by simpa using h4
                              go_wp2_with fail
                              go_meet
                              exact ⟨rfl, by first | rfl | rw [h4], by rw [decide_eq_true (.inl h4)], rfl⟩
                            · have b4 : (i.1 == 4) = false := by simpa using h4
                              go_wp2_with fail
                              go_meet
                              exact ⟨rfl, rfl, congrArg Value.bool (by rw [Bool.eq_iff_iff]; simp [h4]), rfl⟩
                            -- >>
                          case rest =>
                          obtain ⟨rfl, rfl, rfl, rfl⟩ := hcut
                          go_upto_if 124 with fail
                          go_cut [6, 8] (fun s6 s8 wx => s6 = .int .i64 n ∧ s8 = .int .i64 i.1 ∧ RowKit.Hid (TMem w k3 (k3 + 1) (k3 + 2) n (.slice (some ⟨gd, 0, none⟩) n c1) (.slice (some ⟨gt, 0, none⟩) m ct) { W with D := updC W.D x.at_ x.d, todo := td, met := W.met ++ [x], mx := max W.mx x.d, em := max W.em x.e, u0 := useW W.u0 i true, u1 := useW W.u1 i false } wx) ∧ RowKit.Hid (Blk wx gx 191 #[.int .i64 x.at_, .int .i64 x.d, .int .i64 x.e]))
                          case first =>
                            as_aux_lemma =>
                            by_cases h45 : i.1 = 4 ∨ i.1 = 5
                            · rw [decide_eq_true h45]
                              rcases (show i.2 = 0 ∨ i.2 = 1 by have := r6 h45; omega) with ha | ha
                              · have u0 : useW W.u0 i true = true := by unfold useW; simp [h45, ha]
                                have u1 : useW W.u1 i false = W.u1 := by unfold useW; simp [ha]
                                rw [ha] at p2
                                clear r1 r2 r3 r4 r5 r6 h45 ha
                                go_wp2_with fail
                                go_meet
                                exact ⟨rfl, rfl, M7.out.setK 3 (.bool true) rfl rfl rfl (by show (knC _ _ _ W.u0 W.u1 true).setIfInBounds 3 (.bool true) = knC _ _ _ (useW W.u0 i true) (useW W.u1 i false) true; rw [u0, u1]; rfl), HX7.out.far (p := ⟨k3, 3, none⟩) (by show gx ≠ k3; omega) _⟩
                              · have u0 : useW W.u0 i true = W.u0 := by unfold useW; simp [ha]
                                have u1 : useW W.u1 i false = true := by unfold useW; simp [h45, ha]
                                rw [ha] at p2
                                clear r1 r2 r3 r4 r5 r6 h45 ha
                                go_wp2_with fail
                                go_meet
                                exact ⟨rfl, rfl, M7.out.setK 4 (.bool true) rfl rfl rfl (by show (knC _ _ _ W.u0 W.u1 true).setIfInBounds 4 (.bool true) = knC _ _ _ (useW W.u0 i true) (useW W.u1 i false) true; rw [u0, u1]; rfl), HX7.out.far (p := ⟨k3, 4, none⟩) (by show gx ≠ k3; omega) _⟩
                            · rw [decide_eq_false h45]
                              have u0 : useW W.u0 i true = W.u0 := by unfold useW; simp [h45]
                              have u1 : useW W.u1 i false = W.u1 := by unfold useW; simp [h45]
                              go_wp2_with fail
                              go_meet
                              rw [u0, u1]
                              exact ⟨rfl, rfl, M7.out, HX7.out⟩
                            -- >>
                          case rest =>
                            obtain ⟨rfl, rfl, M8, HX8⟩ := hcut
                            clear M7 HX7 e0 p1 p2 k3' k4 z3 z4
                            have e0 := HX8.out.cell 0
                            have e1 := HX8.out.cell 1
                            have e2 := HX8.out.cell 2
                            simp at e0 e1 e2
                            have hxlt := HX8.out.lt
                            have htlt := (M8.out.todo.lt gt rfl).2
                            obtain ⟨t1, t2⟩ := takesF_range i.1
                            obtain ⟨l1, l2⟩ := leavesF_range i.1
                            have hw1 : IntKind.i64.wrap ((x.at_ : Int) + 1) = (x.at_ : Int) + 1 := by rw [IntKind.wrap_i64]; omega
                            have hw2 : IntKind.i64.wrap (x.d - takesF i.1) = x.d - takesF i.1 := by rw [IntKind.wrap_i64]; omega
                            have hw3 : IntKind.i64.wrap (x.d - takesF i.1 + leavesF i.1) = x.d - takesF i.1 + leavesF i.1 := by rw [IntKind.wrap_i64]; omega
                            go_upto_region 30 with fail
                            go_cut [6, 8, 9] (fun s6 s8 s9 wx => ∃ gy, s6 = .int .i64 n ∧ s8 = .int .i64 i.1 ∧ s9 = .pointer (some ⟨gy, 0, none⟩) ∧ gx < gy ∧ gt < gy ∧ RowKit.Hid (TMem w k3 (k3 + 1) (k3 + 2) n (.slice (some ⟨gd, 0, none⟩) n c1) (.slice (some ⟨gt, 0, none⟩) m ct) { W with D := updC W.D x.at_ x.d, todo := td, met := W.met ++ [x], mx := max W.mx x.d, em := max W.em x.e, u0 := useW W.u0 i true, u1 := useW W.u1 i false } wx) ∧ RowKit.Hid (Blk wx gx 191 #[.int .i64 x.at_, .int .i64 x.d, .int .i64 x.e]) ∧ RowKit.Hid (Blk wx gy 191 #[.int .i64 ((x.at_ : Int) + 1), .int .i64 (x.d - takesF i.1 + leavesF i.1), .int .i64 x.e]))
                            case first =>
                              as_aux_lemma =>
                              have hta := take_any i.1 ⟨r1, r2⟩
                              have hle := leave_any i.1 ⟨r1, r2⟩
                              clear r1 r2 r3 r4 r5 r6 t1 t2 l1 l2 htk' BRK hd8 he4 hd8' he4' hatn hati hxr hg0 hbd hs7 hs9 hs10 hn24 hm3 HCL HRB HGT HCF HW HT HM HMT HXI HI HGX sz hk hlt hcap hbg hbgd hgd2 hgx hk3g HR HN
                              generalize takesF i.1 = tk at *
                              generalize leavesF i.1 = lv at *
                              generalize useW W.u0 i true = uu0 at *
                              generalize useW W.u1 i false = uu1 at *
                              generalize i.1 = o at *
                              go_region_held3 (fun w' => w'.cell? ⟨gx, 0, none⟩ = some (.int .i64 x.at_) ∧ w'.cell? ⟨gx, 1, none⟩ = some (.int .i64 x.d) ∧ w'.cell? ⟨gx, 2, none⟩ = some (.int .i64 x.e)) (go_keep) (first | (go_at_call 129; refine (hta _).mono ?_; rintro e w' ⟨rfl, rfl⟩) | (go_at_call 130; refine (hle _).mono ?_; rintro e w' ⟨rfl, rfl⟩))
                              all_goals
                                go_wp2_with fail
                                go_meet
                                have f : ∀ o, Fr wc.heap.size [] wc (wc.drew.alloc o) := fun o => (Fr.refl _ _ _).drew.alloc (Nat.le_refl _) o
                                exact ⟨_, rfl, rfl, rfl, hxlt, htlt, M8.out.keep (f _), HX8.out.fr (f _) HX8.out.lt (by simp), Blk.new wc.drew _ _⟩
                              -- >>
                            case rest =>
                              obtain ⟨gy, rfl, rfl, rfl, hxy, hty, M9, HX9, HY9⟩ := hcut
                              clear M8 HX8 e0 e1 e2 hxlt htlt hw2 hw3
                              obtain ⟨d2, hd2⟩ : ∃ d2, d2 = x.d - takesF i.1 + leavesF i.1 := ⟨_, rfl⟩
                              obtain ⟨e2', he2⟩ : ∃ e2, e2 = if i.1 = 14 then x.e + 1 else x.e := ⟨_, rfl⟩
                              rw [← hd2] at HY9
                              have HD2 := Lib.hid hd2
                              have HE2 := Lib.hid he2
                              have y2 := HY9.out.cell 2
                              have v2 := HY9.out.frozen 2
                              simp at y2
                              have hwe : IntKind.i64.wrap (x.e + 1) = x.e + 1 := by rw [IntKind.wrap_i64]; omega
                              have hdy := HY9.out.ne_own M9.out.dep (by decide)
                              clear hd2
                              go_upto_if 148 with fail
                              go_cut [6, 8, 9] (fun s6 s8 s9 wx => s6 = .int .i64 n ∧ s8 = .int .i64 i.1 ∧ s9 = .pointer (some ⟨gy, 0, none⟩) ∧ RowKit.Hid (TMem w k3 (k3 + 1) (k3 + 2) n (.slice (some ⟨gd, 0, none⟩) n c1) (.slice (some ⟨gt, 0, none⟩) m ct) { W with D := updC W.D x.at_ x.d, todo := td, met := W.met ++ [x], mx := max W.mx x.d, em := max W.em x.e, u0 := useW W.u0 i true, u1 := useW W.u1 i false } wx) ∧ RowKit.Hid (Blk wx gx 191 #[.int .i64 x.at_, .int .i64 x.d, .int .i64 x.e]) ∧ RowKit.Hid (Blk wx gy 191 #[.int .i64 ((x.at_ : Int) + 1), .int .i64 d2, .int .i64 e2']))
                              case first =>
                                as_aux_lemma =>
                                by_cases h14 : i.1 = 14
                                · have b14 : (i.1 == 14) = true := by simpa using h14
                                  rw [if_pos h14] at he2
                                  subst he2
                                  go_wp2_with fail
                                  go_meet
                                  exact ⟨rfl, by first | rfl | rw [h14], rfl, M9.out.keepL ((Fr.refl _ [gy] _).setCell (p := ⟨gy, 2, none⟩) (.inr (by simp)) _) (by omega) hdy (by simp [Value.ownBlock]; omega), HX9.out.far (p := ⟨gy, 2, none⟩) (by show gx ≠ gy; omega) _, HY9.out.set_ 2 (.int .i64 (x.e + 1))⟩
                                · have b14 : (i.1 == 14) = false := by simpa using h14
                                  rw [if_neg h14] at he2
                                  subst he2
                                  go_wp2_with fail
                                  go_meet
                                  exact ⟨rfl, rfl, rfl, M9.out, HX9.out, HY9.out⟩
                                -- >>
                              case rest =>
                                obtain ⟨rfl, rfl, rfl, MA, HXA, HYA⟩ := hcut
                                clear M9 HX9 HY9 y2 v2 hwe hdy he2
                                have y0 := HYA.out.cell 0
                                have y1 := HYA.out.cell 1
                                have y2 := HYA.out.cell 2
                                simp at y0 y1 y2
                                have hylt := HYA.out.lt
                                have htlt := (MA.out.todo.lt gt rfl).2
                                have hxlt := HXA.out.lt
                                have hbwc : bb < wc.heap.size := by have := MA.out.fr.size; omega
                                have MB := Lib.hid (MA.out.keep ((Fr.refl _ _ _).alloc (Nat.le_refl _) (.cells #[.int .i64 ((x.at_ : Int) + 1), .int .i64 d2, .int .i64 e2'] 191)))
                                have HXB := Lib.hid (HXA.out.fr ((Fr.refl wc.heap.size [] wc).alloc (Nat.le_refl _) (.cells #[.int .i64 ((x.at_ : Int) + 1), .int .i64 d2, .int .i64 e2'] 191)) HXA.out.lt (by simp))
                                have HYB := Lib.hid (HYA.out.fr ((Fr.refl wc.heap.size [] wc).alloc (Nat.le_refl _) (.cells #[.int .i64 ((x.at_ : Int) + 1), .int .i64 d2, .int .i64 e2'] 191)) HYA.out.lt (by simp))
                                have HFB := Lib.hid (Blk.new wc 191 #[.int .i64 ((x.at_ : Int) + 1), .int .i64 d2, .int .i64 e2'])
                                have hwf : IntKind.i64.wrap ((x.at_ : Int) + 1 + i.2) = (x.at_ : Int) + 1 + i.2 := by rw [IntKind.wrap_i64]; omega
                                go_upto_region 34 with fail
                                have hdf := HFB.out.ne_own MB.out.dep (by decide)
                                have f0 := HFB.out.cell 0
                                have g0 := HFB.out.frozen 0
                                have e0 := HXB.out.cell 0
                                have q2 := (reads_ins (HR.out.fr MB.out.fr (Nat.le_refl _) (by simp)) HXI.out)
                                obtain ⟨b2, off2, hAe, _, p1, p2⟩ := q2
                                injection hAe with hAe
                                injection hAe with hAe1 hAe2
                                subst hAe1 hAe2
                                simp only [List.getElem?_toArray, List.getElem?_cons_zero] at f0 e0
                                clear MA HXA HYA y0 y1 y2 hbwc
                                generalize wc.alloc _ = wh at *
                                generalize wc.heap.size = gf at *
                                refine wp_region_still_tail 11 (by kernel_rfl) (by kernel_rfl) ?_
                                simp only [List.take_succ_cons, List.take_zero, List.drop_succ_cons, List.drop_zero]
                                repeat still_step
                                refine wpStill_nil ?_
                                change wpList _ _ _ _ _ wh.drew
                                have HYC := Lib.hid (HYB.out.far (p := ⟨gf, 0, none⟩) (by show gy ≠ gf; omega) (.int .i64 ((x.at_ : Int) + 1 + i.2)))
                                have HFC := Lib.hid (HFB.out.set_ 0 (.int .i64 ((x.at_ : Int) + 1 + i.2)))
                                have MC := Lib.hid ((MB.out.keep (Fr.refl _ _ _).drew).keepL ((Fr.refl _ [gf] wh.drew).setCell (p := ⟨gf, 0, none⟩) (.inr (by simp)) (.int .i64 ((x.at_ : Int) + 1 + i.2))) (by omega) hdf (by simp [Value.ownBlock]; omega))
                                clear hdf
                                go_upto_region 35 with fail
                                have hfx := HFC.out.cell 0
                                have hfz := HFC.out.frozen 0
                                simp at hfx
                                go_upto_if 169 with fail
                                go_cut [6, 8, 9, 10] (fun s6 s8 s9 s10 wx => ∃ fa : Int, s6 = .int .i64 n ∧ s8 = .int .i64 i.1 ∧ s9 = .pointer (some ⟨gy, 0, none⟩) ∧ s10 = .pointer (some ⟨gf, 0, none⟩) ∧ RowKit.Hid (i.1 = 15 ∨ i.1 = 16 → fa = farF n x.at_ i.2) ∧ RowKit.Hid (TMem w k3 (k3 + 1) (k3 + 2) n (.slice (some ⟨gd, 0, none⟩) n c1) (.slice (some ⟨gt, 0, none⟩) m ct) ⟨updC W.D x.at_ x.d, max W.mx x.d, max W.em x.e, useW W.u0 i true, useW W.u1 i false, W.met ++ [x], td⟩ wx) ∧ RowKit.Hid (Blk wx gy 191 #[.int .i64 ((x.at_ : Int) + 1), .int .i64 d2, .int .i64 e2']) ∧ RowKit.Hid (Blk wx gf 191 #[.int .i64 fa, .int .i64 d2, .int .i64 e2']))
                                case first =>
                                  as_aux_lemma =>
                                  have hdf := HFC.out.ne_own MC.out.dep (by decide)
                                  have HR5 := Lib.hid r5
                                  by_cases hgn : (n : Int) < (x.at_ : Int) + 1 + i.2
                                  · go_wp2_with fail
                                    go_meet
                                    exact ⟨n, rfl, rfl, rfl, rfl, (fun ho => by have := HR5.out ho; unfold farF; omega), MC.out.keepL ((Fr.refl _ [gf] _).setCell (p := ⟨gf, 0, none⟩) (.inr (by simp)) _) (by omega) hdf (by simp [Value.ownBlock]; omega), HYC.out.far (p := ⟨gf, 0, none⟩) (by show gy ≠ gf; omega) _, HFC.out.set_ 0 (.int .i64 n)⟩
                                  · go_wp2_with fail
                                    go_meet
                                    exact ⟨_, rfl, rfl, rfl, rfl, (fun ho => by have := HR5.out ho; unfold farF; omega), MC.out, HYC.out, HFC.out⟩
                                  -- >>
                                case rest =>
                                  obtain ⟨fa, rfl, rfl, rfl, rfl, HFA, MD, HYD, HFD⟩ := hcut
                                  clear MB HXB HYB HFB MC HYC HFC f0 g0 e0 p1 p2 hfx hfz
                                  have hto : wc.ownsRow (k3 + 2) 191 3 (.slice (some ⟨gt, 0, none⟩) m ct) m (cellsT td) := by
                                    have h : wc.ownsRow (k3 + 2) 191 3 (.slice (some ⟨gt, 0, none⟩) m ct) td.length (cellsT td) := MD.out.todo
                                    rwa [← HM.out] at h
                                  have sz := MD.out.sz
                                  have y0 := HYD.out.cell 0
                                  have y1 := HYD.out.cell 1
                                  have y2 := HYD.out.cell 2
                                  have f0 := HFD.out.cell 0
                                  have f1 := HFD.out.cell 1
                                  have f2 := HFD.out.cell 2
                                  simp at y0 y1 y2 f0 f1 f2
                                  have hon := WRun.on HW.out HT.out HMT.out hd8' he4' hatn HCF.out (by rw [← HI.out]; exact htk')
                                  rw [← HI.out, succT_of HI.out, ← HE2.out, ← HD2.out] at hon
                                  have HON := Lib.hid hon
                                  have hmt : m = td.length := HM.out
                                  clear hon
                                  have hdt : gt ≠ gf := by omega
                                  by_cases h0 : i.1 = 0
                                  ·
                                    as_aux_lemma =>
                                    have hon := HON.out
                                    rw [show nextsF n x.at_ i = [] by unfold nextsF; rw [if_pos h0], List.map_nil] at hon
                                    have HLEN := Lib.hid (show (td ++ []).length = m by rw [List.append_nil, hmt])
                                    rw [h0]
                                    clear hmt
                                    go_wp2_with fail
                                    go_roundg (2 * left n (W.met ++ [x]) + (td ++ []).length)
                                    case measure => rw [HT.out]; simp; omega
                                    case rel => exact ⟨⟨updC W.D x.at_ x.d, max W.mx x.d, max W.em x.e, useW W.u0 i true, useW W.u1 i false, W.met ++ [x], td ++ []⟩, some ⟨gt, 0, none⟩, ct, rfl, (by rw [HT.out] at hbd; simp at hbd; show 2 * left n (W.met ++ [x]) + (td ++ []).length ≤ 3301; simp; omega), (by rw [HLEN.out]), .inr ⟨_, rfl⟩, .inr ⟨_, rfl⟩, .inr ⟨_, rfl⟩, Lib.hid hon, (by show TMem _ _ _ _ _ _ (.slice _ (td ++ []).length _) _ _; rw [HLEN.out]; exact (by rw [List.append_nil]; exact MD.out))⟩
                                    -- >>
                                  by_cases h16 : i.1 = 16
                                  ·
                                    as_aux_lemma =>
                                    have hon := HON.out
                                    have hfa : fa = farF n x.at_ i.2 := HFA.out (.inr h16)
                                    subst hfa
                                    rw [show nextsF n x.at_ i = [farF n x.at_ i.2] by unfold nextsF; rw [if_neg h0, if_pos h16], List.map_cons, List.map_nil] at hon
                                    have HLEN := Lib.hid (show (td ++ [(⟨farF n x.at_ i.2, d2, e2'⟩ : Tri)]).length = m + 1 by simp [hmt])
                                    rw [h16]
                                    clear hmt
                                    go_wp2_with (at_builtin; refine wpList_app_lit _ rfl (.tmp 189) (.tmp 191) triTy rfl (k3 + 2) (.slice (some ⟨gt, 0, none⟩) m ct) (m) _ rfl hto 1 1 _ rfl rfl (by simp [Value.oneCell']) (by omega) (by omega) (by omega) ?_; intro A2 c2 w3 hown2 hg2 hat2)
                                    have M3 := MD.out.growT (x := ⟨farF n x.at_ i.2, d2, e2'⟩) (by show w3.ownsRow _ _ 3 _ (td.length + 1) _; rw [← HM.out]; exact hown2) hg2 hat2
                                    clear hown2 hg2 hat2
                                    go_roundg (2 * left n (W.met ++ [x]) + (td ++ [(⟨farF n x.at_ i.2, d2, e2'⟩ : Tri)]).length)
                                    case measure => rw [HT.out]; simp; omega
                                    case rel => exact ⟨⟨updC W.D x.at_ x.d, max W.mx x.d, max W.em x.e, useW W.u0 i true, useW W.u1 i false, W.met ++ [x], td ++ [(⟨farF n x.at_ i.2, d2, e2'⟩ : Tri)]⟩, A2, c2, rfl, (by rw [HT.out] at hbd; simp at hbd; show 2 * left n (W.met ++ [x]) + (td ++ [(⟨farF n x.at_ i.2, d2, e2'⟩ : Tri)]).length ≤ 3301; simp; omega), (by rw [HLEN.out]), .inr ⟨_, rfl⟩, .inr ⟨_, rfl⟩, .inr ⟨_, rfl⟩, Lib.hid hon, (by show TMem _ _ _ _ _ _ (.slice _ (td ++ [(⟨farF n x.at_ i.2, d2, e2'⟩ : Tri)]).length _) _ _; rw [HLEN.out]; exact M3)⟩
                                    -- >>
                                  by_cases h15 : i.1 = 15
                                  ·
                                    as_aux_lemma =>
                                    have hon := HON.out
                                    have hfa : fa = farF n x.at_ i.2 := HFA.out (.inl h15)
                                    subst hfa
                                    rw [show nextsF n x.at_ i = [x.at_ + 1, farF n x.at_ i.2] by unfold nextsF; rw [if_neg h0, if_neg h16, if_pos h15], List.map_cons, List.map_cons, List.map_nil] at hon
                                    have HLEN := Lib.hid (show (td ++ [(⟨x.at_ + 1, d2, e2'⟩ : Tri), (⟨farF n x.at_ i.2, d2, e2'⟩ : Tri)]).length = m + 1 + 1 by simp [hmt])
                                    rw [h15]
                                    clear hmt
                                    go_upto_region 39 with (at_builtin; refine wpList_app_lit _ rfl (.tmp 179) (.tmp 181) triTy rfl (k3 + 2) (.slice (some ⟨gt, 0, none⟩) m ct) (m) _ rfl hto 1 1 _ rfl rfl (by simp [Value.oneCell']) (by omega) (by omega) (by omega) ?_; intro A2 c2 w3 hown2 hg2 hat2)
                                    have M3 := Lib.hid (MD.out.growT (x := ⟨x.at_ + 1, d2, e2'⟩) (by show w3.ownsRow _ _ 3 _ (td.length + 1) _; rw [← HM.out]; exact hown2) hg2 hat2)
                                    have HF3 : RowKit.Hid (Blk w3 gf 191 #[.int .i64 (farF n x.at_ i.2 : Nat), .int .i64 d2, .int .i64 e2']) := Lib.hid (Blk.app HFD.out hg2 (fun e => hdt (Option.some.inj e)))
                                    clear hown2 hg2 hat2 hto y0 y1 y2 f0 f1 f2
                                    have f0 := HF3.out.cell 0
                                    have f1 := HF3.out.cell 1
                                    have f2 := HF3.out.cell 2
                                    simp at f0 f1 f2
                                    have hto : w3.ownsRow (k3 + 2) 191 3 (.slice A2 (m + 1) c2) (m + 1) (cellsT (td ++ [(⟨x.at_ + 1, d2, e2'⟩ : Tri)])) := by
                                      have h : w3.ownsRow (k3 + 2) 191 3 (.slice A2 (m + 1) c2) (td ++ [(⟨x.at_ + 1, d2, e2'⟩ : Tri)]).length (cellsT (td ++ [(⟨x.at_ + 1, d2, e2'⟩ : Tri)])) := M3.out.todo
                                      rwa [show (td ++ [(⟨x.at_ + 1, d2, e2'⟩ : Tri)]).length = m + 1 by simp [HM.out]] at h
                                    have sz := M3.out.sz
                                    go_wp2_with (at_builtin; refine wpList_app_lit _ rfl (.tmp 189) (.tmp 191) triTy rfl (k3 + 2) (.slice A2 (m + 1) c2) (m + 1) _ rfl hto 1 1 _ rfl rfl (by simp [Value.oneCell']) (by omega) (by omega) (by omega) ?_; intro A3 c3 w4 hown3 hg3 hat3)
                                    have M4 := M3.out.growT (x := ⟨farF n x.at_ i.2, d2, e2'⟩) (by show w4.ownsRow _ _ 3 _ ((td ++ [(⟨x.at_ + 1, d2, e2'⟩ : Tri)]).length + 1) _; rw [show (td ++ [(⟨x.at_ + 1, d2, e2'⟩ : Tri)]).length = m + 1 by simp [HM.out]]; exact hown3) hg3 hat3
                                    clear hown3 hg3 hat3
                                    go_roundg (2 * left n (W.met ++ [x]) + (td ++ [(⟨x.at_ + 1, d2, e2'⟩ : Tri), (⟨farF n x.at_ i.2, d2, e2'⟩ : Tri)]).length)
                                    case measure => rw [HT.out]; simp; omega
                                    case rel => exact ⟨⟨updC W.D x.at_ x.d, max W.mx x.d, max W.em x.e, useW W.u0 i true, useW W.u1 i false, W.met ++ [x], td ++ [(⟨x.at_ + 1, d2, e2'⟩ : Tri), (⟨farF n x.at_ i.2, d2, e2'⟩ : Tri)]⟩, A3, c3, rfl, (by rw [HT.out] at hbd; simp at hbd; show 2 * left n (W.met ++ [x]) + (td ++ [(⟨x.at_ + 1, d2, e2'⟩ : Tri), (⟨farF n x.at_ i.2, d2, e2'⟩ : Tri)]).length ≤ 3301; simp; omega), (by rw [HLEN.out]), .inr ⟨_, rfl⟩, .inr ⟨_, rfl⟩, .inr ⟨_, rfl⟩, Lib.hid hon, (by show TMem _ _ _ _ _ _ (.slice _ (td ++ [(⟨x.at_ + 1, d2, e2'⟩ : Tri), (⟨farF n x.at_ i.2, d2, e2'⟩ : Tri)]).length _) _ _; rw [HLEN.out]; exact (by rw [List.append_assoc] at M4; exact M4))⟩
                                    -- >>
                                  ·
                                    as_aux_lemma =>
                                    have hon := HON.out
                                    rw [show nextsF n x.at_ i = [x.at_ + 1] by unfold nextsF; rw [if_neg h0, if_neg h16, if_neg h15], List.map_cons, List.map_nil] at hon
                                    have HLEN := Lib.hid (show (td ++ [(⟨x.at_ + 1, d2, e2'⟩ : Tri)]).length = m + 1 by simp [hmt])
                                    have b0 : (i.1 != 0) = true := by simpa using h0
                                    have b16 : (i.1 != 16) = true := by simpa using h16
                                    have c15 : (i.1 == 15) = false := by simpa using h15
                                    have c16 : (i.1 == 16) = false := by simpa using h16
                                    clear hmt h0 h16 h15
                                    go_wp2_with (at_builtin; refine wpList_app_lit _ rfl (.tmp 179) (.tmp 181) triTy rfl (k3 + 2) (.slice (some ⟨gt, 0, none⟩) m ct) (m) _ rfl hto 1 1 _ rfl rfl (by simp [Value.oneCell']) (by omega) (by omega) (by omega) ?_; intro A2 c2 w3 hown2 hg2 hat2)
                                    have M3 := MD.out.growT (x := ⟨x.at_ + 1, d2, e2'⟩) (by show w3.ownsRow _ _ 3 _ (td.length + 1) _; rw [← HM.out]; exact hown2) hg2 hat2
                                    clear hown2 hg2 hat2
                                    go_roundg (2 * left n (W.met ++ [x]) + (td ++ [(⟨x.at_ + 1, d2, e2'⟩ : Tri)]).length)
                                    case measure => rw [HT.out]; simp; omega
                                    case rel => exact ⟨⟨updC W.D x.at_ x.d, max W.mx x.d, max W.em x.e, useW W.u0 i true, useW W.u1 i false, W.met ++ [x], td ++ [(⟨x.at_ + 1, d2, e2'⟩ : Tri)]⟩, A2, c2, rfl, (by rw [HT.out] at hbd; simp at hbd; show 2 * left n (W.met ++ [x]) + (td ++ [(⟨x.at_ + 1, d2, e2'⟩ : Tri)]).length ≤ 3301; simp; omega), (by rw [HLEN.out]), .inr ⟨_, rfl⟩, .inr ⟨_, rfl⟩, .inr ⟨_, rfl⟩, Lib.hid hon, (by show TMem _ _ _ _ _ _ (.slice _ (td ++ [(⟨x.at_ + 1, d2, e2'⟩ : Tri)]).length _) _ _; rw [HLEN.out]; exact M3)⟩
                                    -- >>
end Go.Proofs.YtfakgidimekikaaGreat
