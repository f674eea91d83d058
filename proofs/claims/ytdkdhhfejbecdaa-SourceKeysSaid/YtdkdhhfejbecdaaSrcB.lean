/- A source with one partition: Append. -/
import Derived.Test.YtdkdhhfejbecdaaSrcA
import Derived.Deep.DeepCutAuto
namespace Go.Proofs.Ytdkdhhfejbecdaa
open Go.RowKit Go.Fb
/-- How many records go through. -/
def goodN : List (Nat → Int) → Nat
  | [] => 0
  | x :: l => if recB (x 0) (x 1) (x 2) then goodN l + 1 else 0
theorem goodN_le : ∀ l, goodN l ≤ l.length
  | [] => Nat.le_refl _
  | x :: l => by
    have := goodN_le l
    unfold goodN
    split <;> simp <;> omega
theorem goodN_at : ∀ {l : List (Nat → Int)} {k : Nat} {x : Nat → Int}, l[k]? = some x → k ≤ goodN l → recB (x 0) (x 1) (x 2) = false → goodN l = k
  | [], k, x, h, _, _ => by simp at h
  | y :: l, 0, x, h, _, hb => by
    simp at h
    subst h
    rw [goodN, hb]; rfl
  | y :: l, k + 1, x, h, hk, hb => by
    unfold goodN at hk ⊢
    split at hk
    · rename_i hy
      rw [if_pos hy, goodN_at (l := l) (k := k) (x := x) (by simpa using h) (by omega) hb]
    · omega
theorem goodN_next : ∀ {l : List (Nat → Int)} {k : Nat} {x : Nat → Int}, l[k]? = some x → k ≤ goodN l → recB (x 0) (x 1) (x 2) = true → k + 1 ≤ goodN l
  | [], k, x, h, _, _ => by simp at h
  | y :: l, 0, x, h, _, hb => by
    simp at h
    subst h
    rw [goodN, hb]; simp
  | y :: l, k + 1, x, h, hk, hb => by
    unfold goodN at hk ⊢
    split at hk
    · rename_i hy
      rw [if_pos hy]
      have := goodN_next (l := l) (k := k) (x := x) (by simpa using h) (by omega) hb
      omega
    · omega
theorem task0 (k : Int) (w : World) : Calls Try.prog 71 #[.agg #[.int .i64 0, .int .i64 0, .int .i64 0, .int .i64 0, .int .i64 0, .int .i64 0, .int .i64 0, .int .i64 0], .int .i64 k] w fun e w' => e = .returned (.int .i64 0) ∧ Fr w.heap.size [] w w' := task_any (fun _ => 0) k w
theorem recTy : SliceTy Try.prog 56 64 3 24 := SliceTy.mk' (z := .agg #[.int .i64 0, .int .i64 0, .int .i64 0]) Try.underlying56 (by kernel_rfl) rfl (by omega)
/-- The frame of a call that may turn what a source has. -/
def FrS (gp : Nat) (V : Value) (w w' : World) : Prop := Fr w.heap.size (gp :: V.ownBlock.toList) w w'
theorem Sr.grow {base gs gp : Nat} {l : List (Nat → Int)} {at_ : Int} {V : Value} {w w' : World} {x : Nat → Int} {g c n : Nat} (h : Sr base gs gp l at_ V w) (hn : n = l.length)
    (hown : w'.ownsRow base 64 3 (.slice (some ⟨g, 0, none⟩) (n + 1) c) (n + 1) (cellsR l ++ recC x)) (hg : w.grownBy w' V.ownBlock) (hat : V.ownBlock = some g ∨ w.heap.size ≤ g) (hlt : g < w'.heap.size) :
    Sr base gs gp (l ++ [x]) at_ (.slice (some ⟨g, 0, none⟩) (n + 1) c) (w'.setCell ⟨gp, 0, none⟩ (.slice (some ⟨g, 0, none⟩) (n + 1) c)) := by
  have hgs := h.st.lt
  have hgp := h.pt.lt
  have h1 : g ≠ gs ∧ g ≠ gp := by
    rcases hat with hat | hat
    · exact ⟨fun e => h.off.1 (e ▸ hat), fun e => h.off.2 (e ▸ hat)⟩
    · omega
  have fs : Fr w'.heap.size [gp] w' (w'.setCell ⟨gp, 0, none⟩ (.slice (some ⟨g, 0, none⟩) (n + 1) c)) := (Fr.refl _ _ _).setCell (.inr (by simp)) _
  have hb := (h.pt.grown hg (fun e => h.off.2 e.symm)).set_ 0 (.slice (some ⟨g, 0, none⟩) (n + 1) c)
  refine ⟨(h.st.grown hg (fun e => h.off.1 e.symm)).far (by simpa using h.ne) _, by simpa using hb, ?_, ?_, h.low⟩
  · rw [show (l ++ [x]).length = n + 1 by simp [hn], show cellsR (l ++ [x]) = cellsR l ++ recC x by simp [cellsR]]
    refine ownsRow_fr hown fs (fun q hq => ?_)
    have : q = g := by injection hq with hq; exact hq.symm
    subst this
    exact ⟨hlt, by simpa using h1.2⟩
  · exact ⟨fun e => h1.1 (by injection e), fun e => h1.2 (by injection e)⟩
theorem FrS.grow {gp : Nat} {V0 V : Value} {w0 w w' : World} (h : FrS gp V0 w0 w) (hg : w.grownBy w' V.ownBlock) (hv : V.ownBlock = V0.ownBlock ∨ ∃ b, V.ownBlock = some b ∧ w0.heap.size ≤ b) (u : Value) : FrS gp V0 w0 (w'.setCell ⟨gp, 0, none⟩ u) := by
  refine Fr.setCell (Fr.grown h hg h.size (fun k hk => ?_)) (.inr (by simp)) u
  rcases hv with hv | ⟨b, hb, hlt⟩
  · exact .inr (by rw [← hv, hk]; simp)
  · rw [hb] at hk
    injection hk with hk
    exact .inl (by omega)
set_option maxRecDepth 100000 in
set_option maxHeartbeats 1000000 in
theorem append1 {base gs gp : Nat} {l : List (Nat → Int)} {at_ : Int} {V : Value} {w : World} (h : Sr base gs gp l at_ V w) (hbase : base ≤ w.heap.size) (xs : List (Nat → Int)) (A : Option Addr) (c : Nat) (hl : l.length + xs.length ≤ 300)
    (hr : Reads w w.heap.size 3 A xs.length (cellsR xs)) (hap : 0 < xs.length → ∀ ad, A = some ad → ad.block ≠ gp ∧ V.ownBlock ≠ some ad.block) :
    Calls Try.prog 29 #[.pointer (some ⟨gs, 0, none⟩), .slice A xs.length c] w fun e w' =>
      ∃ V', e = .returned (.tuple #[.int .i64 (goodN xs), .int .i64 (if goodN xs = xs.length then 0 else 1)]) ∧ Sr base gs gp (l ++ xs.take (goodN xs)) at_ V' w' ∧ FrS gp V w w' ∧ (V'.ownBlock = V.ownBlock ∨ ∃ b, V'.ownBlock = some b ∧ w.heap.size ≤ b) := by
  have HX := Lib.hid (fun (k : Nat) (hk : k < xs.length) => (⟨xs[k], List.getElem?_eq_getElem hk⟩ : ∃ x, xs[k]? = some x))
  have H := Lib.hid h
  have HR := Lib.hid hr
  have HAP := Lib.hid hap
  have hgl := goodN_le xs
  have hgs := h.st.lt
  have hgp := h.pt.lt
  have hne := h.ne
  obtain ⟨n, hn⟩ : ∃ n, n = xs.length := ⟨_, rfl⟩
  have HN := Lib.hid hn
  obtain ⟨G, hG⟩ : ∃ G, G = goodN xs := ⟨_, rfl⟩
  have HG := Lib.hid hG
  clear h hr hap
  rw [← hG, ← hn] at hgl
  rw [← hn] at hl
  rw [← hG, ← hn]
  clear hG hn
  obtain ⟨code, hcode⟩ : ∃ code : Int, code = if G = n then 0 else 1 := ⟨_, rfl⟩
  have HCODE := Lib.hid hcode
  rw [← hcode]
  clear hcode
  go_enter Try.func29, Try.ntmps29
  go_wp2_with fail
  go_loopw [7, 13] (fun _ i wr => ∃ (k : Nat) (V' : Value), k ≤ n ∧ k ≤ G ∧ i = .int .i64 k ∧ RowKit.Hid (Sr base gs gp (l ++ xs.take k) at_ V' wr) ∧ RowKit.Hid (FrS gp V w wr) ∧ RowKit.Hid (V'.ownBlock = V.ownBlock ∨ ∃ b, V'.ownBlock = some b ∧ w.heap.size ≤ b)) (fun _ i _ => n - (intOf i).toNat)
  case atStart => exact ⟨0, V, by omega, by omega, rfl, by simpa using H, Fr.refl _ _ _, .inl rfl⟩
  case round =>
    obtain ⟨k, V', hk, hkG, rfl, HS, HF, HV⟩ := hrel
    by_cases hkn : k < n
    · obtain ⟨x, hx⟩ := HX.out k (by rw [← HN.out]; exact hkn)
      have hsz := HF.out.size
      have hrd : Reads wr w.heap.size 3 A xs.length (cellsR xs) := HR.out.frL HF.out (Nat.le_refl _) (fun h0 ad e => by
        have := HAP.out h0 ad e
        simp only [List.mem_cons, Option.mem_toList]
        rintro (e' | e')
        · exact this.1 e'
        · exact this.2 e')
      obtain ⟨b1, o1, rfl, hb1, hc1⟩ := reads_rec hrd hx
      have p0 := hc1 0 (by omega)
      have p1 := hc1 1 (by omega)
      have p2 := hc1 2 (by omega)
      simp only [Nat.add_zero, ← Nat.add_assoc] at p0 p1 p2
      have hki : (k : Int) < (n : Int) := by omega
      have HXK := Lib.hid hx
      clear hc1 hrd hx
      go_upto_region 6 with fail
      have hba := Blk.new wr 64 #[.int .i64 (x 0), .int .i64 (x 1), .int .i64 (x 2)]
      have hfa := (Fr.refl wr.heap.size [] wr).alloc (Nat.le_refl _) (.cells #[.int .i64 (x 0), .int .i64 (x 1), .int .i64 (x 2)] 64)
      have hgsr := HS.out.st.lt
      have hgpr := HS.out.pt.lt
      go_wp2_with fail
      generalize wr.alloc _ = wa at *
      clear p0 p1 p2
      refine (cellright_any (x 0) (x 1) (x 2) _).mono ?_
      rintro e w3 ⟨rfl, f3⟩
      have hfr3 := hfa.trans (f3.mono hfa.size (by simp))
      have S3 : RowKit.Hid (Sr base gs gp (l ++ xs.take k) at_ V' w3) := HS.out.keep hfr3
      have BX := Lib.hid (hba.fr f3 hba.lt (by simp))
      have F3 : RowKit.Hid (FrS gp V w w3) := HF.out.trans (hfr3.mono hsz (by simp))
      have hgx : wr.heap.size < w3.heap.size := by have := f3.size; have := hba.lt; omega
      clear hba hfa f3 hfr3
      obtain ⟨gx, hgxe⟩ : ∃ gx, gx = wr.heap.size := ⟨_, rfl⟩
      rw [← hgxe] at BX hgx hgsr hgpr hsz ⊢
      have HGX := Lib.hid hgxe
      clear hgxe
      rcases Bool.eq_false_or_eq_true (recB (x 0) (x 1) (x 2)) with hb | hb
      · rw [hb]
        have hkG1 : k + 1 ≤ G := by rw [HG.out]; exact goodN_next HXK.out (by rw [← HG.out]; exact hkG) hb
        have s0 := S3.out.st.cell 0
        have s1 := S3.out.st.cell 1
        have s2 := S3.out.st.cell 2
        have s3 := S3.out.st.cell 3
        have s4 := S3.out.st.cell 4
        have s5 := S3.out.st.cell 5
        have s6 := S3.out.st.cell 6
        have s7 := S3.out.st.cell 7
        have s8 := S3.out.st.cell 8
        simp at s0 s1 s2 s3 s4 s5 s6 s7 s8
        have x0 := BX.out.cell 0
        simp at x0
        clear hb
        go_wp2_with fail
        have INV : RowKit.Hid (Sr base gs gp (l ++ xs.take k) at_ V' w3.drew ∧ Blk w3.drew gx 64 #[.int .i64 (x 0), .int .i64 (x 1), .int .i64 (x 2)] ∧ Fr w.heap.size (gp :: V.ownBlock.toList) w w3.drew) := ⟨S3.out.keep ((Fr.refl _ _ _).drew), BX.out.drew, F3.out.drew⟩
        clear s0 s1 s2 s3 s4 s5 s6 s7 s8 x0
        go_region_held3 (fun wx => wx.cell? ⟨gs, 0, none⟩ = some (.int .i64 0) ∧ wx.cell? ⟨gs, 1, none⟩ = some (.int .i64 0) ∧ wx.cell? ⟨gs, 2, none⟩ = some (.int .i64 0) ∧ wx.cell? ⟨gs, 3, none⟩ = some (.int .i64 0) ∧ wx.cell? ⟨gs, 4, none⟩ = some (.int .i64 0) ∧ wx.cell? ⟨gs, 5, none⟩ = some (.int .i64 0) ∧ wx.cell? ⟨gs, 6, none⟩ = some (.int .i64 0) ∧ wx.cell? ⟨gs, 7, none⟩ = some (.int .i64 0) ∧ wx.cell? ⟨gs, 8, none⟩ = some (.slice (some ⟨gp, 0, none⟩) 1 1) ∧ wx.cell? ⟨gx, 0, none⟩ = some (.int .i64 (x 0)))
          (exact ⟨INV.out.1.st.cell 0, INV.out.1.st.cell 1, INV.out.1.st.cell 2, INV.out.1.st.cell 3, INV.out.1.st.cell 4, INV.out.1.st.cell 5, INV.out.1.st.cell 6, INV.out.1.st.cell 7, INV.out.1.st.cell 8, INV.out.2.1.cell 0⟩)
          ((go_at_call 71; refine (task0 (x 0) _).mono ?_; rintro e w4 ⟨rfl, f4⟩; have hs4 := f4.size; have INV : RowKit.Hid (Sr base gs gp (l ++ xs.take k) at_ V' w4 ∧ Blk w4 gx 64 #[.int .i64 (x 0), .int .i64 (x 1), .int .i64 (x 2)] ∧ Fr w.heap.size (gp :: V.ownBlock.toList) w w4) := ⟨INV.out.1.keep f4, INV.out.2.1.fr f4 INV.out.2.1.lt (by simp), INV.out.2.2.trans (f4.mono INV.out.2.2.size (by simp))⟩; clear f4))
        all_goals
          obtain ⟨S4, B4, F4⟩ := INV.out
          have ho := S4.own
          obtain ⟨A1, c1, rfl, _, _, _⟩ := ownsRow_shape ho
          have hoff := S4.off.2
          have hoffx : (Value.slice A1 (l ++ xs.take k).length c1).ownBlock ≠ some gx := fun hq => by
            have := (HS.out.own.lt gx hq).2
            have := HGX.out
            omega
          have hpt := S4.pt.cell 0
          have hfz := S4.pt.frozen 0
          simp only [List.getElem?_toArray, List.getElem?_cons_zero] at hpt
          have c0 := B4.cell 0
          have c1' := B4.cell 1
          have c2 := B4.cell 2
          simp at c0 c1' c2
          have hgp4 := S4.pt.lt
          have hgx4 := B4.lt
          have hml : (l ++ xs.take k).length ≤ 300 := by simp; omega
          have SS := Lib.hid S4
          have FF := Lib.hid F4
          clear S4 B4 F4 INV
          obtain ⟨m, hm⟩ : ∃ m, m = (l ++ xs.take k).length := ⟨_, rfl⟩
          rw [← hm] at ho hoff hoffx hpt hml
          have HMM := Lib.hid hm
          clear hm
          obtain ⟨i0, hi0, hz0, hz1, hz2⟩ := info_parts (show (Try.prog.info? 64).map (fun i => (i.zero, i.size, i.bytes)) = some (some (.agg #[.int .i64 0, .int .i64 0, .int .i64 0]), 3, 24) by kernel_rfl)
          go_wp2_with fail
          go_region_law
            ((refine step_append_lies _ (by rfl) _ _ _ (by rfl) base 64 i0 _ 3 24 Try.underlying56 hi0 hz0 hz1 hz2 rfl (by omega) (.slice A1 m c1) m _ (by rfl) ((ho.alloc _).drew)
                  ⟨w4.heap.size, 0, none⟩ 1 1 (recC x) (by rfl) (by rfl) (World.news_of_block (cs := (recC x).toArray) (t := 64) (fr := (0, 0)) (heap_alloc_new w4 _)) (by simp [recC, Value.oneCell'])
                  (by omega) (by unfold maxLen; omega) (by omega) (by simp; omega) (w4.heap.size + 1) (by simp) ?_; intro gg cap w6 hown1 hgrow hat hlt6; have hfz6 : w6.frozen? ⟨gp, 0, none⟩ = false := (hgrow.frozen_far ⟨gp, 0, none⟩ (by simp; omega) (Ne.symm hoff)).trans ((SS.out.pt.alloc _).frozen 0); have hcr6 : w6.cell? ⟨gp, 0, none⟩ = some (.slice A1 m c1) := (hgrow.cell_far ⟨gp, 0, none⟩ (by simp; omega) (Ne.symm hoff)).trans (((SS.out.pt.alloc _).cell 0).trans (by rw [HMM.out]; rfl))))
          all_goals
            go_wp2_with fail
            go_roundw
            case rel =>
              have hmm := HMM.out
              subst hmm
              have hgr := (World.grownBy_alloc w4.drew _ _).trans hgrow
              have hat' : (Value.slice A1 (l ++ xs.take k).length c1).ownBlock = some gg ∨ w4.drew.heap.size ≤ gg := by
                rcases hat with hat | hat
                · exact .inl hat
                · exact .inr (by show w4.heap.size ≤ gg; omega)
              have hG := (SS.out.keep (Fr.drew (Fr.refl _ _ _))).grow (x := x) rfl hown1 hgr hat' hlt6
              have htk : l ++ xs.take (k + 1) = l ++ xs.take k ++ [x] := by rw [List.take_add_one, HXK.out]; simp
              refine ⟨k + 1, _, by omega, by omega, by go_num, by rw [htk]; exact hG, FrS.grow (V := .slice A1 (l ++ xs.take k).length c1) (show FrS gp V w w4.drew from FF.out.drew) hgr HV.out _, ?_⟩
              rcases hat with hat | hat
              · have : Value.ownBlock (.slice (some ⟨gg, 0, none⟩) ((l ++ xs.take k).length + 1) cap) = some gg := rfl
                show _ ∨ _
                rw [this, ← hat]
                exact HV.out
              · exact .inr ⟨gg, rfl, by omega⟩
            case measure => simp [intOf]; omega
      · rw [hb]
        have hGk : G = k := by rw [HG.out]; exact goodN_at HXK.out (by rw [← HG.out]; exact hkG) hb
        have hcode : code = 1 := by rw [HCODE.out, if_neg (by omega)]
        subst hcode hGk
        clear hb
        go_wp2_with fail
        go_ret2
        exact ⟨V', rfl, S3.out, F3.out, HV.out⟩
    · obtain rfl : k = n := by omega
      have hGk : G = k := by omega
      have hcode : code = 0 := by rw [HCODE.out, if_pos hGk]
      subst hcode hGk
      have S' := HS
      clear HS
      go_wp2_with fail
      go_ret2
      exact ⟨rfl, V', S'.out, HF.out, HV.out⟩
end Go.Proofs.Ytdkdhhfejbecdaa
