/- A source with one to three partitions: Append. -/
import Derived.Test.YtdkdhhfejbecdaaSpA
import Derived.Deep.DeepCutAuto
namespace Go.Proofs.Ytdkdhhfejbecdaa
open Go.RowKit Go.Fb
/-- The task of a record. -/
def tk (r : Nat → Int) (x : Nat → Int) : Int := r (x 0 % 8).toNat
/-- The partitions' lists behind records. -/
def addR (r : Nat → Int) (R : Nat → List (Nat → Int)) (xs : List (Nat → Int)) (i : Nat) : List (Nat → Int) := R i ++ xs.filter fun x => decide (tk r x = (i : Int))
theorem addR_nil (r : Nat → Int) (R : Nat → List (Nat → Int)) : addR r R [] = R := by funext i; simp [addR]
theorem addR_snoc (r : Nat → Int) (R : Nat → List (Nat → Int)) (xs : List (Nat → Int)) (x : Nat → Int) (i : Nat) : addR r R (xs ++ [x]) i = if tk r x = (i : Int) then addR r R xs i ++ [x] else addR r R xs i := by
  unfold addR
  rw [List.filter_append]
  by_cases c : tk r x = (i : Int)
  · rw [if_pos c]; simp [c]
  · rw [if_neg c]; simp [c]
theorem addR_le (r : Nat → Int) (R : Nat → List (Nat → Int)) (xs : List (Nat → Int)) (i : Nat) : (addR r R xs i).length ≤ (R i).length + xs.length := by
  unfold addR
  rw [List.length_append]
  exact Nat.add_le_add_left (List.length_filter_le _ _) _
theorem tk_in {P : Nat} {r : Nat → Int} (h : right8 P r = true) (x : Nat → Int) : ∃ i : Nat, i < P ∧ tk r x = (i : Int) := by
  unfold right8 inTo at h
  simp only [Bool.and_eq_true, decide_eq_true_eq, List.all_eq_true, List.mem_range] at h
  have := h.2 (x 0 % 8).toNat (by omega)
  exact ⟨(tk r x).toNat, by unfold tk; omega, by unfold tk; omega⟩
section
variable {base gs gp P : Nat} {r : Nat → Int} {R : Nat → List (Nat → Int)} {V : Nat → Value} {w w' : World}
theorem Sp.grow (h : Sp base gs gp P r R V w) {i : Nat} (hi : i < P) {R' : Nat → List (Nat → Int)} {x : Nat → Int} (hRi : R' i = R i ++ [x]) (hR : ∀ j, j < P → j ≠ i → R' j = R j) {g c n : Nat} (hn : n = (R i).length)
    (hown : w'.ownsRow base 64 3 (.slice (some ⟨g, 0, none⟩) (n + 1) c) (n + 1) (cellsR (R i) ++ recC x)) (hg : w.grownBy w' (V i).ownBlock) (hat : (V i).ownBlock = some g ∨ w.heap.size ≤ g) (hlt : g < w'.heap.size) :
    Sp base gs gp P r R' (updV V i (.slice (some ⟨g, 0, none⟩) (n + 1) c)) (w'.setCell ⟨gp, i * 2, none⟩ (.slice (some ⟨g, 0, none⟩) (n + 1) c)) := by
  have hgs := h.st.lt
  have hgp := h.pt.lt
  have h1 : g ≠ gs ∧ g ≠ gp := by
    rcases hat with hat | hat
    · exact ⟨fun e => h.ngs hi (by rw [hat, e]), fun e => h.ngp hi (by rw [hat, e])⟩
    · omega
  have fs : Fr w'.heap.size [gp] w' (w'.setCell ⟨gp, i * 2, none⟩ (.slice (some ⟨g, 0, none⟩) (n + 1) c)) := (Fr.refl _ _ _).setCell (.inr (by simp)) _
  have hb := (h.pt.grown hg (h.ngp hi)).set_ (i * 2) (.slice (some ⟨g, 0, none⟩) (n + 1) c)
  rw [ptC_set h.pos.2 hi] at hb
  refine ⟨h.pos, (h.st.grown hg (h.ngs hi)).far (by simpa using h.ne) _, hb, fun j hj => ?_, fun j k hj hk hjk => ?_, h.low⟩
  · by_cases e : j = i
    · subst e
      rw [updV, if_pos rfl, hRi, show (R j ++ [x]).length = n + 1 by simp [hn], show cellsR (R j ++ [x]) = cellsR (R j) ++ recC x by simp [cellsR]]
      refine ownsRow_fr hown fs (fun q hq => ?_)
      have : q = g := by injection hq with hq; exact hq.symm
      subst this
      exact ⟨hlt, by simpa using h1.2⟩
    · rw [updV, if_neg e, hR j hj e]
      have hk1 := (h.own j hj).kept hg (h.sep j i hj hi e)
      exact ownsRow_fr hk1 fs (fun q hq => ⟨(hk1.lt q hq).2, by simp; rintro rfl; exact h.ngp hj hq.symm⟩)
  · unfold updV
    have hv : Value.ownBlock (.slice (some ⟨g, 0, none⟩) (n + 1) c) = some g := rfl
    by_cases e1 : j = i
    · subst e1
      rw [if_pos rfl, if_neg (fun e => hjk e.symm), hv]
      refine .inr fun e => ?_
      rcases hat with hat | hat
      · rcases h.sep j k hj hk hjk with h0 | h0
        · rw [hat] at h0; cases h0
        · exact h0 (by rw [hat]; exact e)
      · have := ((h.own k hk).lt g e.symm).2; omega
    · rw [if_neg e1]
      by_cases e2 : k = i
      · subst e2
        rw [if_pos rfl, hv]
        rcases hat with hat | hat
        · rcases h.sep j k hj hk hjk with h0 | h0
          · exact .inl h0
          · exact .inr (fun e => h0 (by rw [hat]; exact e))
        · refine .inr fun e => ?_
          have := ((h.own j hj).lt g e).2; omega
      · rw [if_neg e2]
        exact h.sep j k hj hk hjk
end
set_option maxRecDepth 100000 in
set_option maxHeartbeats 2000000 in
theorem append_any {base gs gp P : Nat} {r : Nat → Int} {R : Nat → List (Nat → Int)} {V : Nat → Value} {w : World} (h : Sp base gs gp P r R V w) (hbase : base ≤ w.heap.size) (hrt : right8 P r = true) (xs : List (Nat → Int)) (A : Option Addr) (c B : Nat)
    (hl : ∀ i, i < P → (R i).length + xs.length ≤ 399) (hr : Reads w B 3 A xs.length (cellsR xs)) (hB : B ≤ base) :
    Calls Try.prog 29 #[.pointer (some ⟨gs, 0, none⟩), .slice A xs.length c] w fun e w' =>
      ∃ V', e = .returned (.tuple #[.int .i64 (goodN xs), .int .i64 (if goodN xs = xs.length then 0 else 1)]) ∧ Sp base gs gp P r (addR r R (xs.take (goodN xs))) V' w' ∧ Fr base [] w w' := by
  have HX := Lib.hid (fun (k : Nat) (hk : k < xs.length) => (⟨xs[k], List.getElem?_eq_getElem hk⟩ : ∃ x, xs[k]? = some x))
  have H := Lib.hid h
  have HR := Lib.hid hr
  have HL := Lib.hid (fun (i : Nat) (hi : i < P) (k : Nat) => (Nat.le_trans (addR_le r R (xs.take k) i) (by have := hl i hi; rw [List.length_take]; omega) : (addR r R (xs.take k) i).length ≤ 399))
  have HT := Lib.hid (fun x => tk_in hrt x)
  have hgl := goodN_le xs
  have hn399 : xs.length ≤ 399 := by have := hl 0 (by have := h.pos.1; omega); omega
  obtain ⟨n, hn⟩ : ∃ n, n = xs.length := ⟨_, rfl⟩
  have HN := Lib.hid hn
  obtain ⟨G, hG⟩ : ∃ G, G = goodN xs := ⟨_, rfl⟩
  have HG := Lib.hid hG
  have hP3 := h.pos.2
  clear h hr hl hrt
  rw [← hG, ← hn] at hgl
  rw [← hn] at hn399
  rw [← hG, ← hn]
  clear hG hn
  obtain ⟨code, hcode⟩ : ∃ code : Int, code = if G = n then 0 else 1 := ⟨_, rfl⟩
  have HCODE := Lib.hid hcode
  rw [← hcode]
  clear hcode
  go_enter Try.func29, Try.ntmps29
  go_wp2_with fail
  go_loopg [13] n (fun g i wr => ∃ (k : Nat) (V' : Nat → Value), k ≤ n ∧ k ≤ G ∧ g = n - k ∧ i = .int .i64 k ∧ RowKit.Hid (Sp base gs gp P r (addR r R (xs.take k)) V' wr) ∧ RowKit.Hid (Fr base [] w wr))
  case atStart => exact ⟨0, V, by omega, by omega, rfl, rfl, by rw [List.take_zero, addR_nil]; exact H, Lib.hid (Fr.refl _ _ _)⟩
  case round =>
    obtain ⟨k, V', hk, hkG, rfl, rfl, HS, HF⟩ := hrel
    by_cases hkn : k < n
    · obtain ⟨x, hx⟩ := HX.out k (by rw [← HN.out]; exact hkn)
      have hsz := HF.out.size
      have hrd := HR.out.fr HF.out hB (by simp)
      obtain ⟨b1, o1, rfl, hb1, hc1⟩ := reads_rec hrd hx
      have p0 := hc1 0 (by omega)
      have p1 := hc1 1 (by omega)
      have p2 := hc1 2 (by omega)
      simp only [Nat.add_zero, ← Nat.add_assoc] at p0 p1 p2
      have hki : (k : Int) < (n : Int) := by omega
      have HXK := Lib.hid hx
      clear hc1 hrd hx
      go_upto_region 6 with fail
      have hba := Blk.new wr 64 #[.int .i64 (x 0), .int .i64 (x 1), .int .i64 (x 2)]
      have hfa := (Fr.refl wr.heap.size [] wr).alloc (Nat.le_refl _) (.cells #[.int .i64 (x 0), .int .i64 (x 1), .int .i64 (x 2)] 64)
      go_wp2_with fail
      have hwr : base ≤ wr.heap.size := Nat.le_trans hbase hsz
      generalize wr.alloc _ = wa at *
      clear p0 p1 p2
      refine (cellright_any (x 0) (x 1) (x 2) _).mono ?_
      rintro e w3 ⟨rfl, f3⟩
      have hfr3 := hfa.trans (f3.mono hfa.size (by simp))
      have S3 := Lib.hid (HS.out.keep hfr3)
      have BX := Lib.hid (hba.fr f3 hba.lt (by simp))
      have F3 := Lib.hid (HF.out.trans (hfr3.mono (B' := base) (L' := []) hwr (by simp)))
      have hw3 : base ≤ w3.heap.size := Nat.le_trans hwr hfr3.size
      obtain ⟨gx, hgxe⟩ : ∃ gx, gx = wr.heap.size := ⟨_, rfl⟩
      rw [← hgxe] at BX
      have HGX := Lib.hid (fun (i q : Nat) (hi : i < P) (hq : (V' i).ownBlock = some q) => (by have := ((HS.out.own i hi).lt q hq).2; omega : q ≠ gx))
      have hgxp : gx ≠ gp := by have := HS.out.pt.lt; omega
      rw [← hgxe]
      clear hba hfa f3 hfr3 hgxe HS HF
      rcases Bool.eq_false_or_eq_true (recB (x 0) (x 1) (x 2)) with hb | hb
      · rw [hb]
        have hkG1 : k + 1 ≤ G := by rw [HG.out]; exact goodN_next HXK.out (by rw [← HG.out]; exact hkG) hb
        obtain ⟨i, hi, hti⟩ := HT.out x
        have HTI := Lib.hid hti
        have HTA := Lib.hid (fun wx => (by have o := task_any r (x 0) wx; rw [show r (x 0 % 8).toNat = (i : Int) from hti] at o; exact o : Calls Try.prog 71 #[A8 r, .int .i64 (x 0)] wx fun e w' => e = .returned (.int .i64 (i : Nat)) ∧ Fr wx.heap.size [] wx w'))
        have hii : (i : Int) < (P : Int) := by omega
        have hi0 : (0 : Int) ≤ (i : Int) := by omega
        clear hb hti
        go_upto_region 8 with fail
        have INV : RowKit.Hid (Sp base gs gp P r (addR r R (xs.take k)) V' w3.drew ∧ Blk w3.drew gx 64 #[.int .i64 (x 0), .int .i64 (x 1), .int .i64 (x 2)] ∧ Fr base [] w w3.drew ∧ base ≤ w3.drew.heap.size) := ⟨S3.out.keep ((Fr.refl _ _ _).drew), BX.out.drew, F3.out.drew, hw3⟩
        go_region_held3 (fun wx => wx.cell? ⟨gs, 0, none⟩ = some (.int .i64 (r 0)) ∧ wx.cell? ⟨gs, 1, none⟩ = some (.int .i64 (r 1)) ∧ wx.cell? ⟨gs, 2, none⟩ = some (.int .i64 (r 2)) ∧ wx.cell? ⟨gs, 3, none⟩ = some (.int .i64 (r 3)) ∧ wx.cell? ⟨gs, 4, none⟩ = some (.int .i64 (r 4)) ∧ wx.cell? ⟨gs, 5, none⟩ = some (.int .i64 (r 5)) ∧ wx.cell? ⟨gs, 6, none⟩ = some (.int .i64 (r 6)) ∧ wx.cell? ⟨gs, 7, none⟩ = some (.int .i64 (r 7)) ∧ wx.cell? ⟨gs, 8, none⟩ = some (.slice (some ⟨gp, 0, none⟩) P P) ∧ wx.cell? ⟨gx, 0, none⟩ = some (.int .i64 (x 0)))
          (exact ⟨INV.out.1.st.cell 0, INV.out.1.st.cell 1, INV.out.1.st.cell 2, INV.out.1.st.cell 3, INV.out.1.st.cell 4, INV.out.1.st.cell 5, INV.out.1.st.cell 6, INV.out.1.st.cell 7, INV.out.1.st.cell 8, INV.out.2.1.cell 0⟩)
          ((go_at_call 71; refine (HTA.out _).mono ?_; rintro e w4 ⟨rfl, f4⟩; have hs4 := f4.size; have INV : RowKit.Hid (Sp base gs gp P r (addR r R (xs.take k)) V' w4 ∧ Blk w4 gx 64 #[.int .i64 (x 0), .int .i64 (x 1), .int .i64 (x 2)] ∧ Fr base [] w w4 ∧ base ≤ w4.heap.size) := ⟨INV.out.1.keep f4, INV.out.2.1.fr f4 INV.out.2.1.lt (by simp), INV.out.2.2.1.trans (f4.mono INV.out.2.2.2 (by simp)), Nat.le_trans INV.out.2.2.2 hs4⟩; clear f4))
        all_goals
          obtain ⟨S4, B4, F4, hb4⟩ := INV.out
          have ho := S4.own i hi
          obtain ⟨A1, c1, hVi, _, _, _⟩ := ownsRow_shape ho
          rw [hVi] at ho
          have hoff := S4.ngp hi
          rw [hVi] at hoff
          have hoffx : (Value.slice A1 (addR r R (xs.take k) i).length c1).ownBlock ≠ some gx := fun hq => HGX.out i gx hi (by rw [hVi]; exact hq) rfl
          have hpt := S4.pt.cell (i * 2)
          have hfz := S4.pt.frozen (i * 2)
          rw [(ptC_get hP3 hi).1, hVi] at hpt
          have c0 := B4.cell 0
          have c1' := B4.cell 1
          have c2 := B4.cell 2
          simp at c0 c1' c2
          have hgp4 := S4.pt.lt
          have hgx4 := B4.lt
          have hml := HL.out i hi k
          have SS := Lib.hid S4
          have FF := Lib.hid F4
          have HVI := Lib.hid hVi
          clear S4 B4 F4 INV hVi
          obtain ⟨m, hm⟩ : ∃ m, m = (addR r R (xs.take k) i).length := ⟨_, rfl⟩
          rw [← hm] at ho hoff hoffx hpt hml
          have HMM := Lib.hid hm
          have hm4 : decide ((400 : Int) ≤ (m : Int)) = false := decide_eq_false (by omega)
          clear hm
          obtain ⟨i0, hi0', hz0, hz1, hz2⟩ := info_parts (show (Try.prog.info? 64).map (fun i => (i.zero, i.size, i.bytes)) = some (some (.agg #[.int .i64 0, .int .i64 0, .int .i64 0]), 3, 24) by kernel_rfl)
          go_wp2_with fail
          go_region_law
            ((refine step_append_lies _ (by rfl) _ _ _ (by rfl) base 64 i0 _ 3 24 Try.underlying56 hi0' hz0 hz1 hz2 rfl (by omega) (.slice A1 m c1) m _ (by rfl) ((ho.alloc _).drew)
                  ⟨w4.heap.size, 0, none⟩ 1 1 (recC x) (by rfl) (by rfl) (World.news_of_block (cs := (recC x).toArray) (t := 64) (fr := (0, 0)) (heap_alloc_new w4 _)) (by simp [recC, Value.oneCell'])
                  (by omega) (by unfold maxLen; omega) (by omega) (by simp; omega) (w4.heap.size + 1) (by simp) ?_; intro gg cap w6 hown1 hgrow hat hlt6; have hfz6 : w6.frozen? ⟨gp, i * 2, none⟩ = false := (hgrow.frozen_far ⟨gp, i * 2, none⟩ (by simp; omega) hoff).trans ((SS.out.pt.alloc _).frozen (i * 2)); have hcr6 : w6.cell? ⟨gp, i * 2, none⟩ = some (.slice A1 m c1) := (hgrow.cell_far ⟨gp, i * 2, none⟩ (by simp; omega) hoff).trans (((SS.out.pt.alloc _).cell (i * 2)).trans (by rw [(ptC_get hP3 hi).1, HVI.out, HMM.out]))))
          all_goals
            go_wp2_with fail
            go_roundg (n - (k + 1))
            case measure => omega
            case rel =>
              have hmm := HMM.out
              subst hmm
              have hgr := (World.grownBy_alloc w4.drew _ _).trans hgrow
              rw [← HVI.out] at hgr
              have hat' : (V' i).ownBlock = some gg ∨ w4.drew.heap.size ≤ gg := by
                rw [HVI.out]
                rcases hat with hat | hat
                · exact .inl hat
                · exact .inr (by show w4.heap.size ≤ gg; omega)
              have htk : xs.take (k + 1) = xs.take k ++ [x] := by rw [List.take_add_one, HXK.out]; rfl
              have hG := (SS.out.keep (Fr.drew (Fr.refl _ _ _))).grow (R' := addR r R (xs.take (k + 1))) hi (x := x) (by rw [htk, addR_snoc, if_pos HTI.out]) (fun j hj hji => by rw [htk, addR_snoc, if_neg (by rw [HTI.out]; omega)]) rfl hown1 hgr hat' hlt6
              refine ⟨k + 1, _, by omega, by omega, rfl, by go_num, hG, ?_⟩
              have hbb : base ≤ gp := SS.out.low.2
              refine Lib.hid (Fr.setCell ((FF.out.drew).grown hgr (by show base ≤ w4.heap.size; exact hb4) (fun q hq => .inl ?_)) (.inl hbb) _)
              exact ((SS.out.own i hi).lt q hq).1
      · rw [hb]
        have hGk : G = k := by rw [HG.out]; exact goodN_at HXK.out (by rw [← HG.out]; exact hkG) hb
        have hcode : code = 1 := by rw [HCODE.out, if_neg (by omega)]
        subst hcode hGk
        clear hb
        go_wp2_with fail
        go_ret2
        exact ⟨V', rfl, S3.out, F3.out⟩
    · obtain rfl : k = n := by omega
      have hGk : G = k := by omega
      have hcode : code = 0 := by rw [HCODE.out, if_pos hGk]
      subst hcode hGk
      have S' := HS
      clear HS
      go_wp2_with fail
      go_ret2
      exact ⟨rfl, ⟨V', S'.out⟩, HF.out⟩
end Go.Proofs.Ytdkdhhfejbecdaa
