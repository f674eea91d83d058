/- Texts merged into one, for the number of files a claim may have: VmA, VmB, VmC, VmD, VmE, VmF. -/
import Derived.Test.YthfibggbipkmfaaGreatDX5
import Derived.Test.YthfibggbipkmfaaGreatDX8
import Derived.Deep.AppendLies
import Derived.Deep.RegionHeld3
import Derived.Deep.RegionLaw
import Derived.ScopeJumps
import Derived.Shelf.Abstract
namespace Go.Proofs.YthfibggbipkmfaaGreat
open Go.RowKit Go.Fb
set_option linter.unusedVariables false
def mcA (vo : Value) (S : MS) (vp vs : Value) : Array Value := #[vo, .int .i64 S.c.1.1, .int .i64 S.c.1.2, .int .i64 S.c.2.1, .int .i64 S.c.2.2, .int .i64 S.st, vp, .int .i64 S.x.1, .int .i64 S.x.2, .int .i64 (S.at_ : Int), vs]
/-- A machine in memory; L: the blocks that are its own. -/
def MC (b0 g : Nat) (vp : Value) (S : MS) (L : List Nat) (w : World) : Prop :=
  ∃ (Ao : Option Addr) (no co : Nat) (As : Option Addr) (ns cs : Nat), no = S.o.length ∧ ns = S.s.length ∧ Blk w g 247 (mcA (.slice Ao no co) S vp (.slice As ns cs)) ∧ w.ownsRow b0 42 2 (.slice Ao no co) no (cellsV S.o) ∧ w.ownsRow b0 42 2 (.slice As ns cs) ns (cellsV S.s) ∧ (∀ q, (Value.slice Ao no co).ownBlock = some q → (Value.slice As ns cs).ownBlock ≠ some q) ∧ L = g :: ((Value.slice Ao no co).ownBlock.toList ++ (Value.slice As ns cs).ownBlock.toList)
/-- Nothing but L has turned below; what is L' now is of L, or new. -/
structure Mv (L : List Nat) (w : World) (L' : List Nat) (w' : World) : Prop where
  fr : Fr w.heap.size L w w'
  of : ∀ q ∈ L', q ∈ L ∨ w.heap.size ≤ q
theorem Mv.refl (L : List Nat) (w : World) : Mv L w L w := ⟨Fr.refl _ _ _, fun q hq => .inl hq⟩
theorem Mv.trans {L L1 L2 : List Nat} {w w1 w2 : World} (h : Mv L w L1 w1) (k : Mv L1 w1 L2 w2) : Mv L w L2 w2 :=
  ⟨h.fr.trans (k.fr.mono h.fr.size (fun q hq hlt => (h.of q hq).elim id (fun c => by omega))), fun q hq => by
    rcases k.of q hq with c | c
    · exact h.of q c
    · exact .inr (Nat.le_trans h.fr.size c)⟩
/-- Something that is not the machine's happens behind. -/
theorem Mv.fr_ {L L1 : List Nat} {w w1 w2 : World} (h : Mv L w L1 w1) (k : Fr w1.heap.size [] w1 w2) : Mv L w L1 w2 := h.trans ⟨k.mono (Nat.le_refl _) (by simp), fun q hq => .inl hq⟩
theorem MC.mv {b0 g : Nat} {vp : Value} {S : MS} {L : List Nat} {w w' : World} (h : MC b0 g vp S L w) (hf : Fr w.heap.size [] w w') : MC b0 g vp S L w' := by
  obtain ⟨Ao, no, co, As, ns, cs, h1, h2, h3, h4, h5, h6, h7⟩ := h
  exact ⟨Ao, no, co, As, ns, cs, h1, h2, h3.fr hf h3.lt (by simp), ownsRow_fr h4 hf (fun q hq => ⟨(h4.lt q hq).2, by simp⟩), ownsRow_fr h5 hf (fun q hq => ⟨(h5.lt q hq).2, by simp⟩), h6, h7⟩
theorem MC.lt {b0 g : Nat} {vp : Value} {S : MS} {L : List Nat} {w : World} (h : MC b0 g vp S L w) : ∀ q ∈ L, q < w.heap.size := by
  obtain ⟨Ao, no, co, As, ns, cs, h1, h2, h3, h4, h5, h6, rfl⟩ := h
  intro q hq
  simp only [List.mem_cons, List.mem_append, Option.mem_toList] at hq
  rcases hq with e | e | e
  · subst e; exact h3.lt
  · exact (h4.lt q e).2
  · exact (h5.lt q e).2
theorem own_far {w : World} {g t : Nat} {cs : Array Value} (hb : Blk w g t cs) {base e size n : Nat} {v : Value} {xs : List Value} (h : w.ownsRow base e size v n xs) (hne : e ≠ t) (i : Nat) (u : Value) : (w.setCell ⟨g, i, none⟩ u).ownsRow base e size v n xs := ownsRow_setCell_other h (Ne.symm (hb.ne_own h hne)) u
set_option maxRecDepth 100000 in
set_option maxHeartbeats 8000000 in
theorem push_any (b0 g : Nat) (vp : Value) (S : MS) (L : List Nat) (v : Int × Int) (w : World) (hM : MC b0 g vp S L w) (hb : b0 ≤ w.heap.size) (hn : S.s.length ≤ 100000) :
    Calls Tryz.prog 182 #[.pointer (some ⟨g, 0, none⟩), .agg #[.int .i64 v.1, .int .i64 v.2]] w fun e w' => e = .returned (.tuple #[]) ∧ ∃ L', MC b0 g vp (pushM v S) L' w' ∧ Mv L w L' w' := by
  obtain ⟨Ao, no, co, As, ns, cs, ho, hs, hB, hO, hS, hoff, hL⟩ := hM
  have fa := (Fr.refl w.heap.size [] w).alloc (Nat.le_refl _) (.cells #[.int .i64 v.1, .int .i64 v.2] 42)
  have BR := Lib.hid (Blk.new w 42 #[.int .i64 v.1, .int .i64 v.2])
  have B1 := Lib.hid (hB.fr fa hB.lt (by simp))
  have O1 := Lib.hid (ownsRow_fr hO fa (fun q hq => ⟨(hO.lt q hq).2, by simp⟩))
  have S1 := Lib.hid (ownsRow_fr hS fa (fun q hq => ⟨(hS.lt q hq).2, by simp⟩))
  have HOL := Lib.hid (fun q (hq : (Value.slice Ao no co).ownBlock = some q) => (hO.lt q hq).2)
  have HSL := Lib.hid (fun q (hq : (Value.slice As ns cs).ownBlock = some q) => (hS.lt q hq).2)
  have HLg : g ∈ L := by rw [hL]; simp
  have HLo := Lib.hid (fun q (hq : (Value.slice Ao no co).ownBlock = some q) => (by rw [hL, hq]; simp : q ∈ L))
  have HLs := Lib.hid (fun q (hq : (Value.slice As ns cs).ownBlock = some q) => (by rw [hL, hq]; simp : q ∈ L))
  have HOFF := Lib.hid hoff
  have HNO := Lib.hid ho
  have HNS := Lib.hid hs
  have hgw := hB.lt
  have F1 := Lib.hid (fa.mono (B' := w.heap.size) (L' := L) (Nat.le_refl _) (by simp))
  have hsz1 : w.heap.size < (w.alloc (.cells #[.int .i64 v.1, .int .i64 v.2] 42)).heap.size := by simp
  have hnsm : ns ≤ 100000 := by omega
  clear fa hB hO hS hoff hL hn ho hs
  go_enter Tryz.func182, Tryz.ntmps182
  go_upto_region 1 with fail
  generalize w.alloc (.cells #[.int .i64 v.1, .int .i64 v.2] 42) = w3 at *
  have ho := S1.out
  have hcr := B1.out.cell 10
  have hfz := B1.out.frozen 10
  have hoff : (Value.slice As ns cs).ownBlock ≠ some g := Ne.symm (B1.out.ne_own ho (by decide))
  have r0 := BR.out.cell 0
  have r1 := BR.out.cell 1
  simp [mcA] at r0 r1 hcr
  have hcrA : (w3.alloc (.cells #[.int .i64 v.1, .int .i64 v.2] 42)).cell? ⟨g, 10, none⟩ = some (.slice As ns cs) := (B1.out.alloc _).cell 10
  obtain ⟨i0, hi0, hz0, hz1, hz2⟩ := info_parts (show (Tryz.prog.info? 42).map (fun i => (i.zero, i.size, i.bytes)) = some (some (.agg #[.int .i64 0, .int .i64 0]), 2, 16) by kernel_rfl)
  go_region_law
    ((refine step_append_lies _ (by rfl) _ _ _ (by rfl) b0 42 i0 _ 2 16 Tryz.underlying118 hi0 hz0 hz1 hz2 rfl (by omega) (.slice As ns cs) ns _ (by rfl) ((ho.alloc _).drew)
        ⟨w3.heap.size, 0, none⟩ 1 1 (valC v) (by rfl) (by rfl) (World.news_of_block (cs := (valC v).toArray) (t := 42) (fr := (0, 0)) (heap_alloc_new w3 _)) (by simp [valC, Value.oneCell'])
        (by omega) (by unfold maxLen; omega) (by omega) (by simp; omega) (w3.heap.size + 1) (by simp) ?_; intro gg cap w6 hown1 hgrow hat hlt6; have hfz6 : w6.frozen? ⟨g, 10, none⟩ = false := (hgrow.frozen_far ⟨g, 10, none⟩ (by simp; omega) (Ne.symm hoff)).trans ((B1.out.alloc _).frozen 10); have hcr6 : w6.cell? ⟨g, 10, none⟩ = some (.slice As ns cs) := (hgrow.cell_far ⟨g, 10, none⟩ (by simp; omega) (Ne.symm hoff)).trans (((B1.out.alloc _).cell 10))))
  all_goals
    go_wp2_with fail
    have hba := (B1.out.alloc (.cells #[.int .i64 v.1, .int .i64 v.2] 42)).drew
    have hOa := ((O1.out.alloc (.cells #[.int .i64 v.1, .int .i64 v.2] 42)).drew)
    have hb6 : Blk w6 g 247 (mcA (.slice Ao no co) S vp (.slice As ns cs)) := (hgrow.block g hba.lt (Ne.symm hoff)).trans hba
    have fg := ((Fr.refl w3.heap.size (Value.slice As ns cs).ownBlock.toList w3).alloc (Nat.le_refl _) (.cells #[.int .i64 v.1, .int .i64 v.2] 42)).drew.grown hgrow (by simp) (fun q hq => .inr (by simp [hq]))
    have hO6 := ownsRow_fr O1.out fg (fun q hq => ⟨(O1.out.lt q hq).2, by simpa using HOFF.out q hq⟩)
    have hog : (Value.slice Ao no co).ownBlock ≠ some g := Ne.symm (B1.out.ne_own O1.out (by decide))
    have hgg : (Value.slice As ns cs).ownBlock = some gg ∨ w.heap.size ≤ gg := by
      rcases hat with hat | hat
      · exact .inl hat
      · exact .inr (by omega)
    go_end0
    refine ⟨rfl, g :: ((Value.slice Ao no co).ownBlock.toList ++ [gg]), ⟨Ao, no, co, some ⟨gg, 0, none⟩, ns + 1, cap, HNO.out, by simp [pushM, HNS.out], ?_, ?_, ?_, ?_, rfl⟩, ⟨?_, ?_⟩⟩
    · exact hb6.set_ 10 (.slice (some ⟨gg, 0, none⟩) (ns + 1) cap)
    · exact ownsRow_setCell_other hO6 (by simpa using hog) _
    · have h5 : (w6.setCell ⟨g, 10, none⟩ (.slice (some ⟨gg, 0, none⟩) (ns + 1) cap)).ownsRow b0 42 2 (.slice (some ⟨gg, 0, none⟩) (ns + 1) cap) (ns + 1) (cellsV S.s ++ valC v) := ownsRow_setCell_other hown1 (Ne.symm (hb6.ne_own hown1 (by decide))) _
      simp only [pushM, cellsV_app]
      simpa [cellsV] using h5
    · intro q hq he
      have e : gg = q := by simpa [Value.ownBlock] using he
      subst e
      rcases hgg with c | c
      · exact HOFF.out _ hq c
      · exact absurd (HOL.out _ hq) (by omega)
    · exact ((((F1.out.alloc (by omega) _).drew).grown hgrow (by simp; omega) (fun q hq => .inr (HLs.out q hq))).setCell (p := ⟨g, 10, none⟩) (.inr HLg) _)
    · intro q hq
      simp only [List.mem_cons, List.mem_append, Option.mem_toList] at hq
      rcases hq with e | e | e
      · subst e; exact .inl HLg
      · exact .inl (HLo.out q e)
      · rcases e with e | e
        · subst e
          rcases hgg with c | c
          · exact .inl (HLs.out _ c)
          · exact .inr c
        · cases e
theorem own_cap {w : World} {base e size n c : Nat} {A : Option Addr} {xs : List Value} (h : w.ownsRow base e size (.slice A n c) n xs) (hn : 0 < n) : n ≤ c := by
  obtain ⟨hl, hc⟩ := h
  rcases hc with ⟨h0, h1⟩ | ⟨g', cap, cur, hv, h2, h3, h4, h5⟩
  · omega
  · injection hv with hv1 hv2 hv3
    subst hv3
    exact h4
theorem own_shape {w : World} {base e size n c : Nat} {A : Option Addr} {xs : List Value} (h : w.ownsRow base e size (.slice A n c) n xs) (hn : 0 < n) : ∃ gs, A = some ⟨gs, 0, none⟩ := by
  obtain ⟨hl, hc⟩ := h
  rcases hc with ⟨h0, h1⟩ | ⟨g', cap, cur, hv, hrest⟩
  · injection h0 with _ e _
    omega
  · injection hv with hv1 hv2 hv3
    exact ⟨g', hv1⟩
theorem top_get {s : List (Int × Int)} (h : 0 < s.length) : s[s.length - 1]? = some (topV s) := by
  unfold topV
  rw [List.getLastD_eq_getLast?, ← List.getLast?_eq_getElem?]
  cases h2 : s.getLast? with
  | none => rw [List.getLast?_eq_none_iff] at h2; subst h2; simp at h
  | some v => rfl
theorem cellsV_drop (s : List (Int × Int)) : cellsV s.dropLast = (cellsV s).take ((s.length - 1) * 2) := by
  rcases Nat.eq_zero_or_pos s.length with h | h
  · rw [List.length_eq_zero_iff] at h; subst h; rfl
  · have e : s = s.dropLast ++ [topV s] := by
      have hne : s ≠ [] := List.length_pos_iff.1 h
      conv => lhs; rw [← List.dropLast_concat_getLast hne]
      unfold topV
      rw [List.getLastD_eq_getLast?, List.getLast?_eq_some_getLast hne]; rfl
    conv => rhs; rw [e, cellsV_app]
    rw [List.take_append_of_le_length (by rw [cellsV_length]; simp), List.take_of_length_le (by rw [cellsV_length]; simp)]
def popM (S : MS) : MS := { S with s := S.s.dropLast }
set_option maxRecDepth 100000 in
set_option maxHeartbeats 8000000 in
theorem pop_any (b0 g : Nat) (vp : Value) (S : MS) (L : List Nat) (w : World) (hM : MC b0 g vp S L w) (hb : b0 ≤ w.heap.size) (h0 : 0 < S.s.length) (hn : S.s.length ≤ 100000) :
    Calls Tryz.prog 183 #[.pointer (some ⟨g, 0, none⟩)] w fun e w' => e = .returned (.agg #[.int .i64 (topV S.s).1, .int .i64 (topV S.s).2]) ∧ ∃ L', MC b0 g vp (popM S) L' w' ∧ Mv L w L' w' := by
  obtain ⟨Ao, no, co, As, ns, cs, ho, hs, hB, hO, hS, hoff, hL⟩ := hM
  obtain ⟨gs, rfl⟩ := own_shape hS (by omega)
  have hgs := hS.lt gs rfl
  have hcap := own_cap hS (by omega)
  obtain ⟨v, hv⟩ : ∃ v, v = topV S.s := ⟨_, rfl⟩
  have hg := top_get h0
  rw [← hv, ← hs] at hg
  obtain ⟨hc0, hc1⟩ := cellsV_get hg
  have hz : w.frozen? ⟨g, 10, none⟩ = false := hB.frozen 10
  rw [← hv]
  have fa := (Fr.refl w.heap.size [] w).alloc (Nat.le_refl _) (.cells #[.int .i64 0, .int .i64 0] 42)
  have BR := Lib.hid (Blk.new w 42 #[.int .i64 0, .int .i64 0])
  have B1 := Lib.hid (hB.fr fa hB.lt (by simp))
  have O1 := Lib.hid (ownsRow_fr hO fa (fun q hq => ⟨(hO.lt q hq).2, by simp⟩))
  have S1 := Lib.hid (ownsRow_fr hS fa (fun q hq => ⟨(hS.lt q hq).2, by simp⟩))
  have HLg : g ∈ L := by rw [hL]; simp
  have HL := Lib.hid hL
  have HOFF := Lib.hid hoff
  have HNO := Lib.hid ho
  have HNS := Lib.hid hs
  have HOW := Lib.hid (fun q (hq : (Value.slice Ao no co).ownBlock = some q) => (hO.lt q hq).2)
  have hgw := hB.lt
  have F1 := Lib.hid (fa.mono (B' := w.heap.size) (L' := L) (Nat.le_refl _) (by simp))
  have hns0 : 0 < ns := by omega
  have hnsm : ns ≤ 100000 := by omega
  have HC0 := Lib.hid hc0
  have HC1 := Lib.hid hc1
  clear fa hB hO hS hoff hL hn ho hs hg hc0 hc1 hz hv h0
  go_enter Tryz.func183, Tryz.ntmps183
  go_upto_region 1 with fail
  generalize w.alloc (.cells #[.int .i64 0, .int .i64 0] 42) = w1 at *
  have hcr := B1.out.cell 10
  have hfz := B1.out.frozen 10
  simp [mcA] at hcr
  have hsub : wrap64 ((ns : Int) - 1) = ((ns - 1 : Nat) : Int) := by unfold wrap64; omega
  have c0 := (S1.out.cellAt ((ns - 1) * 2) (by omega)).trans HC0.out
  have c1 := (S1.out.cellAt ((ns - 1) * 2 + 1) (by omega)).trans HC1.out
  go_upto_region 3 with fail
  have fb := (Fr.refl w1.heap.size [] w1).alloc (Nat.le_refl _) (.cells #[.int .i64 v.1, .int .i64 v.2] 42)
  have BV := Lib.hid (Blk.new w1 42 #[.int .i64 v.1, .int .i64 v.2])
  have B2 := Lib.hid (B1.out.fr fb B1.out.lt (by simp))
  have O2 := Lib.hid (ownsRow_fr O1.out fb (fun q hq => ⟨(O1.out.lt q hq).2, by simp⟩))
  have S2 := Lib.hid (own_prefix (ownsRow_fr S1.out fb (fun q hq => ⟨(S1.out.lt q hq).2, by simp⟩)) (ns - 1) (by omega))
  have BR2 := Lib.hid (BR.out.fr fb BR.out.lt (by simp))
  have F2 := Lib.hid (F1.out.trans (fb.mono (B' := w.heap.size) (L' := L) F1.out.size (by simp)))
  have hlt1 : w.heap.size < w1.heap.size := BR.out.lt
  obtain ⟨gv, hgv⟩ : ∃ gv, gv = w1.heap.size := ⟨_, rfl⟩
  rw [← hgv] at BV hlt1 ⊢
  clear fb hcr hfz c0 c1 hgv
  generalize w1.alloc (.cells #[.int .i64 v.1, .int .i64 v.2] 42) = w2 at *
  clear B1 O1 S1 BR F1
  have hcr := B2.out.cell 10
  have hfz := B2.out.frozen 10
  simp [mcA] at hcr
  have hsl : ((ns - 1 : Nat) : Int) ≤ (cs : Int) := by omega
  go_upto_region 4 with fail
  have fc := (Fr.refl w2.heap.size [g] w2).setCell (p := ⟨g, 10, none⟩) (.inr (by simp)) (.slice (some ⟨gs, 0, none⟩) (ns - 1) cs)
  have hne : gv ≠ g := by omega
  have hne2 : w.heap.size ≠ g := by omega
  have BV3 := Lib.hid (BV.out.fr fc BV.out.lt (by simp; omega))
  have BR3 := Lib.hid (BR2.out.fr fc BR2.out.lt (by simp; omega))
  have B3 := Lib.hid (B2.out.set_ 10 (.slice (some ⟨gs, 0, none⟩) (ns - 1) cs))
  have O3 := Lib.hid (own_far B2.out O2.out (by decide) 10 (.slice (some ⟨gs, 0, none⟩) (ns - 1) cs))
  have S3 := Lib.hid (own_far B2.out S2.out (by decide) 10 (.slice (some ⟨gs, 0, none⟩) (ns - 1) cs))
  have F3 := Lib.hid (F2.out.setCell (p := ⟨g, 10, none⟩) (.inr HLg) (.slice (some ⟨gs, 0, none⟩) (ns - 1) cs))
  clear fc hcr hfz
  generalize w2.setCell ⟨g, 10, none⟩ (.slice (some ⟨gs, 0, none⟩) (ns - 1) cs) = w3 at *
  clear B2 O2 S2 BR2 F2 BV
  have c0 := BV3.out.cell 0
  have c1 := BV3.out.cell 1
  have e0 := BR3.out.cell 0
  have e1 := BR3.out.cell 1
  have z0 := BR3.out.frozen 0
  have z1 := BR3.out.frozen 1
  simp at c0 c1 e0 e1
  go_wp2_with fail
  have hgw3 : w.heap.size < w3.heap.size := BR3.out.lt
  have fd := ((Fr.refl w3.heap.size [w.heap.size] w3).setCell (p := ⟨w.heap.size, 0, none⟩) (.inr (by simp)) (.int .i64 v.1)).setCell (p := ⟨w.heap.size, 1, none⟩) (.inr (by simp)) (.int .i64 v.2)
  refine bodyPost_ret (results_cell_row rfl _ _ w.heap.size 42 #[.int .i64 v.1, .int .i64 v.2] (0, 0) _ rfl ((BR3.out.set_ 0 _).set_ 1 _) Tryz.underlying42 rfl (by kernel_rfl)) rfl ⟨rfl, L, ⟨Ao, no, co, some ⟨gs, 0, none⟩, ns - 1, cs, HNO.out, by simp [popM, HNS.out], ?_, ?_, ?_, HOFF.out, HL.out⟩, ⟨?_, fun q hq => .inl hq⟩⟩
  · exact B3.out.fr fd B3.out.lt (by simp; omega)
  · exact ownsRow_fr O3.out fd (fun q hq => ⟨(O3.out.lt q hq).2, by have := HOW.out q hq; simp; omega⟩)
  · have := ownsRow_fr S3.out fd (fun q hq => ⟨(S3.out.lt q hq).2, by have h := (S3.out.lt q hq).2; simp [Value.ownBlock] at hq; simp; omega⟩)
    simp only [popM, cellsV_drop, ← HNS.out]
    exact this
  · exact (F3.out.setCell (p := ⟨w.heap.size, 0, none⟩) (.inl (Nat.le_refl _)) _).setCell (p := ⟨w.heap.size, 1, none⟩) (.inl (Nat.le_refl _)) _
end Go.Proofs.YthfibggbipkmfaaGreat
namespace Go.Proofs.YthfibggbipkmfaaGreat
open Go.RowKit Go.Fb
set_option linter.unusedVariables false
theorem gadd2 (x y : Int × Int) (gl t : Nat) (w : World) (hb : Blk w gl t #[.int .i64 x.1, .int .i64 x.2, .int .i64 y.1, .int .i64 y.2]) : Calls Tryz.prog 188 #[.slice (some ⟨gl, 0, none⟩) 2 2] w fun e w' => e = .returned (.agg #[.int .i64 (opV 6 x y).1, .int .i64 (opV 6 x y).2]) ∧ Fr w.heap.size [] w w' :=
  gadd_any (some ⟨gl, 0, none⟩) 2 (gl + 1) [x, y] w (Reads.of_blk hb (by rfl)) hb.lt (by simp)
theorem gmul2 (x y : Int × Int) (gl t : Nat) (w : World) (hb : Blk w gl t #[.int .i64 x.1, .int .i64 x.2, .int .i64 y.1, .int .i64 y.2]) : Calls Tryz.prog 190 #[.slice (some ⟨gl, 0, none⟩) 2 2] w fun e w' => e = .returned (.agg #[.int .i64 (opV 8 x y).1, .int .i64 (opV 8 x y).2]) ∧ Fr w.heap.size [] w w' :=
  gmul_any (some ⟨gl, 0, none⟩) 2 (gl + 1) [x, y] w (Reads.of_blk hb (by rfl)) hb.lt (by simp)
theorem MC.far {b0 g : Nat} {vp : Value} {S : MS} {L : List Nat} {w w' : World} (h : MC b0 g vp S L w) {q : Nat} (hf : Fr w.heap.size [q] w w') (hq : q ∉ L) : MC b0 g vp S L w' := by
  obtain ⟨Ao, no, co, As, ns, cs, h1, h2, h3, h4, h5, h6, h7⟩ := h
  rw [h7] at hq
  simp only [List.mem_cons, List.mem_append, Option.mem_toList, not_or] at hq
  obtain ⟨q1, q2, q3⟩ := hq
  exact ⟨Ao, no, co, As, ns, cs, h1, h2, h3.fr hf h3.lt (by simpa using Ne.symm q1), ownsRow_fr h4 hf (fun k hk => ⟨(h4.lt k hk).2, by simp; intro e; subst e; exact q2 hk⟩), ownsRow_fr h5 hf (fun k hk => ⟨(h5.lt k hk).2, by simp; intro e; subst e; exact q3 hk⟩), h6, h7⟩
theorem Mv.old {L L' : List Nat} {w w' : World} (h : Mv L w L' w') {q : Nat} (hq : q < w.heap.size) (hn : q ∉ L) : q ∉ L' := fun c => (h.of q c).elim hn (fun c => by omega)
set_option maxRecDepth 100000 in
set_option maxHeartbeats 8000000 in
theorem two_any (b0 g : Nat) (vp : Value) (S : MS) (L : List Nat) (o : Int) (w : World) (hM : MC b0 g vp S L w) (hb : b0 ≤ w.heap.size) (h2 : 2 ≤ S.s.length) (hn : S.s.length ≤ 1000) (hop : o = 6 ∨ o = 7 ∨ o = 8 ∨ o = 17) :
    Calls Tryz.prog 185 #[.pointer (some ⟨g, 0, none⟩), .int .i64 o] w fun e w' => e = .returned (.tuple #[]) ∧ ∃ L', MC b0 g vp (twoM o S) L' w' ∧ Mv L w L' w' := by
  have HM := Lib.hid hM
  have HP1 := Lib.hid (pop_any b0 g vp S L w hM hb (by omega) (by omega))
  have hl1 : 0 < (popM S).s.length := by simp [popM]; omega
  have hl2 : (popM (popM S)).s.length ≤ 1000 := by simp [popM]; omega
  have hl3 : (popM S).s.length ≤ 100000 := by simp [popM]; omega
  clear hM h2 hn
  go_enter Tryz.func185, Tryz.ntmps185
  go_wp2_with fail
  refine HP1.out.mono ?_
  rintro e w1 ⟨rfl, L1, hm1, hv1⟩
  have M1 := Lib.hid hm1
  have V1 := Lib.hid hv1
  obtain ⟨y, hy⟩ : ∃ y, y = topV S.s := ⟨_, rfl⟩
  rw [← hy]
  have HY := Lib.hid hy
  clear hm1 hv1 hy HP1
  go_upto_region 1 with fail
  have fa := (Fr.refl w1.heap.size [] w1).alloc (Nat.le_refl _) (.cells #[.int .i64 y.1, .int .i64 y.2] 42)
  have BY := Lib.hid (Blk.new w1 42 #[.int .i64 y.1, .int .i64 y.2])
  have M2 := Lib.hid (M1.out.mv fa)
  have V2 := Lib.hid (V1.out.fr_ fa)
  obtain ⟨gy, hgy⟩ : ∃ gy, gy = w1.heap.size := ⟨_, rfl⟩
  have HYL := Lib.hid (show gy ∉ L1 from fun c => by have := M1.out.lt gy c; omega)
  have hb2 : b0 ≤ gy := by have := V1.out.fr.size; omega
  have hgw : w.heap.size ≤ gy := by have := V1.out.fr.size; omega
  rw [← hgy] at BY ⊢
  clear fa hgy M1 V1
  generalize w1.alloc (.cells #[.int .i64 y.1, .int .i64 y.2] 42) = w2 at *
  have hyw2 : gy < w2.heap.size := BY.out.lt
  have HP2 := Lib.hid (pop_any b0 g vp (popM S) L1 w2 M2.out (by omega) hl1 hl3)
  go_wp2_with fail
  refine HP2.out.mono ?_
  rintro e w3 ⟨rfl, L3, hm3, hv3⟩
  have BY3 := Lib.hid (BY.out.fr hv3.fr hyw2 HYL.out)
  have HYL3 := Lib.hid (hv3.old hyw2 HYL.out)
  have M3 := Lib.hid hm3
  have V3 := Lib.hid (V2.out.trans hv3)
  have hw3 : gy < w3.heap.size := BY3.out.lt
  clear HP2 M2 V2 BY HYL hm3 hv3
  obtain ⟨x, hx⟩ : ∃ x, x = topV (popM S).s := ⟨_, rfl⟩
  rw [← hx]
  have HX := Lib.hid hx
  clear hx
  go_upto_region 2 with fail
  have fa := (Fr.refl w3.heap.size [] w3).alloc (Nat.le_refl _) (.cells #[.int .i64 x.1, .int .i64 x.2] 42)
  have BX := Lib.hid (Blk.new w3 42 #[.int .i64 x.1, .int .i64 x.2])
  have BY4 := Lib.hid (BY3.out.fr fa BY3.out.lt (by simp))
  have M4 := Lib.hid (M3.out.mv fa)
  have V4 := Lib.hid (V3.out.fr_ fa)
  obtain ⟨gx, hgx⟩ : ∃ gx, gx = w3.heap.size := ⟨_, rfl⟩
  rw [← hgx] at BX hw3 ⊢
  clear fa hgx M3 V3 BY3 HYL3
  generalize w3.alloc (.cells #[.int .i64 x.1, .int .i64 x.2] 42) = w4 at *
  have hxw : gx < w4.heap.size := BX.out.lt
  have y0 := BY4.out.cell 0
  have y1 := BY4.out.cell 1
  have x0 := BX.out.cell 0
  have x1 := BX.out.cell 1
  simp at y0 y1 x0 x1
  have HRES := Lib.hid (show twoM o S = pushM (opV o x y) (popM (popM S)) by rw [HX.out, HY.out]; rfl)
  have hls : w.heap.size ≤ w4.heap.size := V4.out.fr.size
  have hle := hl2
  generalize popM (popM S) = T at *
  clear HX HY hl1 hl2 hl3
  rcases hop with rfl | rfl | rfl | rfl
  · go_wp2_with fail
    have fl := (Fr.refl w4.heap.size [] w4).alloc (Nat.le_refl _) (.cells #[.int .i64 x.1, .int .i64 x.2, .int .i64 y.1, .int .i64 y.2] 42)
    have BL := Blk.new w4 42 #[.int .i64 x.1, .int .i64 x.2, .int .i64 y.1, .int .i64 y.2]
    refine (gadd2 x y _ _ _ BL).mono ?_
    rintro e w5 ⟨rfl, f5⟩
    have f5 := fl.trans (f5.mono (B' := w4.heap.size) (L' := []) fl.size (by simp))
    have M5 := M4.out.mv f5
    have V5 := V4.out.fr_ f5
    go_wp2_with fail
    refine (push_any b0 g vp T L3 _ w5 M5 (by have := f5.size; omega) (by omega)).mono ?_
    rintro e w6 ⟨rfl, L6, m6, v6⟩
    go_wp2_with fail
    go_end0
    exact ⟨rfl, L6, by rw [HRES.out]; exact m6, V5.trans v6⟩
  · go_wp2_with fail
    refine (gsub_any x y _).mono ?_
    rintro e w5 ⟨rfl, f5⟩
    rw [show subV x y = opV 7 x y from rfl]
    have M5 := M4.out.mv f5
    have V5 := V4.out.fr_ f5
    go_wp2_with fail
    refine (push_any b0 g vp T L3 _ w5 M5 (by have := f5.size; omega) (by omega)).mono ?_
    rintro e w6 ⟨rfl, L6, m6, v6⟩
    go_wp2_with fail
    go_end0
    exact ⟨rfl, L6, by rw [HRES.out]; exact m6, V5.trans v6⟩
  · go_wp2_with fail
    have fl := (Fr.refl w4.heap.size [] w4).alloc (Nat.le_refl _) (.cells #[.int .i64 x.1, .int .i64 x.2, .int .i64 y.1, .int .i64 y.2] 42)
    have BL := Blk.new w4 42 #[.int .i64 x.1, .int .i64 x.2, .int .i64 y.1, .int .i64 y.2]
    refine (gmul2 x y _ _ _ BL).mono ?_
    rintro e w5 ⟨rfl, f5⟩
    have f5 := fl.trans (f5.mono (B' := w4.heap.size) (L' := []) fl.size (by simp))
    have M5 := M4.out.mv f5
    have V5 := V4.out.fr_ f5
    go_wp2_with fail
    refine (push_any b0 g vp T L3 _ w5 M5 (by have := f5.size; omega) (by omega)).mono ?_
    rintro e w6 ⟨rfl, L6, m6, v6⟩
    go_wp2_with fail
    go_end0
    exact ⟨rfl, L6, by rw [HRES.out]; exact m6, V5.trans v6⟩
  · have hlt3 := Lib.hid M4.out.lt
    have hwz : w.heap.size ≤ w4.heap.size := hls
    have hls : (if lessV x y = true then ((1, 0) : Int × Int) else (0, 0)) = opV 17 x y := rfl
    go_upto_region 4 with fail
    have fl := (Fr.refl w4.heap.size [] w4).alloc (Nat.le_refl _) (.cells #[.int .i64 0, .int .i64 0] 42)
    have BZ := Blk.new w4 42 #[.int .i64 0, .int .i64 0]
    have M5 := Lib.hid (M4.out.mv fl)
    have V5 := Lib.hid (V4.out.fr_ fl)
    have X5 := BX.out.fr fl BX.out.lt (by simp)
    have Y5 := BY4.out.fr fl BY4.out.lt (by simp)
    have BZ := Lib.hid BZ
    clear y0 y1 x0 x1 fl BX BY4 M4 V4
    obtain ⟨gz, hgz⟩ : ∃ gz, gz = w4.heap.size := ⟨_, rfl⟩
    have HZL := Lib.hid (show gz ∉ L3 from fun c => by have := hlt3.out gz c; omega)
    have hbz : b0 ≤ gz := by omega
    have hwgz : w.heap.size ≤ gz := by omega
    rw [← hgz] at BZ ⊢
    clear hgz
    generalize w4.alloc (.cells #[.int .i64 0, .int .i64 0] 42) = w5 at *
    have y0 := Y5.cell 0
    have y1 := Y5.cell 1
    have x0 := X5.cell 0
    have x1 := X5.cell 1
    simp at y0 y1 x0 x1
    clear X5 Y5
    have HLE := Lib.hid (gless_any x y w5)
    have HOP := Lib.hid hls
    clear hls
    generalize lessV x y = lv at *
    go_wp2_with fail
    refine HLE.out.mono ?_
    rintro e w6 ⟨rfl, f6⟩
    have M6 := Lib.hid (M5.out.mv f6)
    have V6 := Lib.hid (V5.out.fr_ f6)
    have BZ6 := Lib.hid (BZ.out.fr f6 BZ.out.lt (by simp))
    have hz6 : gz < w6.heap.size := BZ6.out.lt
    clear HLE M5 V5 BZ f6 x0 x1 y0 y1
    cases lv
    · have z0 := BZ6.out.cell 0
      have z1 := BZ6.out.cell 1
      simp at z0 z1
      go_wp2_with fail
      refine (push_any b0 g vp T L3 (0, 0) w6 M6.out (by omega) (by omega)).mono ?_
      rintro e w7 ⟨rfl, L7, m7, v7⟩
      go_wp2_with fail
      go_end0
      exact ⟨rfl, L7, by rw [HRES.out, ← HOP.out]; exact m7, V6.out.trans v7⟩
    · have z0 := BZ6.out.cell 0
      have z1 := BZ6.out.cell 1
      have zf := BZ6.out.frozen 0
      simp at z0 z1
      go_upto_region 6 with fail
      have fs := (Fr.refl w6.heap.size [gz] w6).setCell (p := ⟨gz, 0, none⟩) (.inr (by simp)) (.int .i64 1)
      have M7 := M6.out.far (q := gz) fs HZL.out
      have V7 : Mv L w L3 (w6.setCell ⟨gz, 0, none⟩ (.int .i64 1)) := ⟨V6.out.fr.setCell (p := ⟨gz, 0, none⟩) (.inl hwgz) _, V6.out.of⟩
      have BZ7 := BZ6.out.set_ 0 (.int .i64 1)
      clear z0 z1 zf
      generalize w6.setCell ⟨gz, 0, none⟩ (.int .i64 1) = w7 at *
      have z0 := BZ7.cell 0
      have z1 := BZ7.cell 1
      simp at z0 z1
      go_wp2_with fail
      refine (push_any b0 g vp T L3 (1, 0) w7 M7 (by have := fs.size; omega) (by omega)).mono ?_
      rintro e w8 ⟨rfl, L8, m8, v8⟩
      go_wp2_with fail
      go_end0
      exact ⟨rfl, L8, by rw [HRES.out, ← HOP.out]; exact m8, V7.trans v8⟩
end Go.Proofs.YthfibggbipkmfaaGreat
namespace Go.Proofs.YthfibggbipkmfaaGreat
open Go.RowKit Go.Fb
set_option linter.unusedVariables false
def emitM (v : Int × Int) (S : MS) : MS := { S with o := S.o ++ [v] }
set_option maxRecDepth 100000 in
set_option maxHeartbeats 8000000 in
theorem top_any (b0 g : Nat) (vp : Value) (S : MS) (L : List Nat) (o : Int) (w : World) (hM : MC b0 g vp S L w) (hb : b0 ≤ w.heap.size) (h1 : 1 ≤ S.s.length) (h2 : o = 12 → 2 ≤ S.s.length) (hn : S.s.length ≤ 1000) (hno : S.o.length ≤ 1000) (hop : o = 9 ∨ o = 10 ∨ o = 11 ∨ o = 12 ∨ o = 13 ∨ o = 14) :
    Calls Tryz.prog 186 #[.pointer (some ⟨g, 0, none⟩), .int .i64 o] w fun e w' => e = .returned (.tuple #[]) ∧ ∃ L', MC b0 g vp (topM o S) L' w' ∧ Mv L w L' w' := by
  have HM := Lib.hid hM
  have HP1 := Lib.hid (pop_any b0 g vp S L w hM hb (by omega) (by omega))
  have hl1 : o = 12 → 0 < (popM S).s.length := by simp [popM]; omega
  have hl2 : (popM S).s.length ≤ 1000 := by simp [popM]; omega
  have hl3 : (popM S).o.length ≤ 1000 := hno
  clear hM h1 h2 hn hno
  go_enter Tryz.func186, Tryz.ntmps186
  go_wp2_with fail
  refine HP1.out.mono ?_
  rintro e w1 ⟨rfl, L1, hm1, hv1⟩
  have M1 := Lib.hid hm1
  have V1 := Lib.hid hv1
  obtain ⟨y, hy⟩ : ∃ y, y = topV S.s := ⟨_, rfl⟩
  rw [← hy]
  have HY := Lib.hid hy
  clear hm1 hv1 hy HP1
  go_upto_region 1 with fail
  have fa := (Fr.refl w1.heap.size [] w1).alloc (Nat.le_refl _) (.cells #[.int .i64 y.1, .int .i64 y.2] 42)
  have BY := Lib.hid (Blk.new w1 42 #[.int .i64 y.1, .int .i64 y.2])
  have M2 := Lib.hid (M1.out.mv fa)
  have V2 := Lib.hid (V1.out.fr_ fa)
  obtain ⟨gy, hgy⟩ : ∃ gy, gy = w1.heap.size := ⟨_, rfl⟩
  have HYL := Lib.hid (show gy ∉ L1 from fun c => by have := M1.out.lt gy c; omega)
  have hb2 : b0 ≤ gy := by have := V1.out.fr.size; omega
  have hgw : w.heap.size ≤ gy := by have := V1.out.fr.size; omega
  rw [← hgy] at BY ⊢
  clear fa hgy M1 V1
  generalize w1.alloc (.cells #[.int .i64 y.1, .int .i64 y.2] 42) = w2 at *
  have hyw2 : gy < w2.heap.size := BY.out.lt
  have y0 := BY.out.cell 0
  have y1 := BY.out.cell 1
  simp at y0 y1
  have HC := Lib.hid (HY.out)
  rcases hop with rfl | rfl | rfl | rfl | rfl | rfl
  · have HRES := Lib.hid (show topM 9 S = pushM (conjV y) (popM S) by rw [HY.out]; rfl)
    clear HY HC hl1 hl3
    generalize popM S = T at *
    go_wp2_with fail
    refine (gconj_any y _).mono ?_
    rintro e w5 ⟨rfl, f5⟩
    have M5 := M2.out.mv f5
    have V5 := V2.out.fr_ f5
    go_wp2_with fail
    refine (push_any b0 g vp T L1 _ w5 M5 (by have := f5.size; omega) (by omega)).mono ?_
    rintro e w6 ⟨rfl, L6, m6, v6⟩
    go_wp2_with fail
    go_end0
    exact ⟨rfl, L6, by rw [HRES.out]; exact m6, V5.trans v6⟩
  · have HRES := Lib.hid (show topM 10 S = pushM (turnV y) (popM S) by rw [HY.out]; rfl)
    clear HY HC hl1 hl3
    generalize popM S = T at *
    go_wp2_with fail
    refine (gturn_any y _).mono ?_
    rintro e w5 ⟨rfl, f5⟩
    have M5 := M2.out.mv f5
    have V5 := V2.out.fr_ f5
    go_wp2_with fail
    refine (push_any b0 g vp T L1 _ w5 M5 (by have := f5.size; omega) (by omega)).mono ?_
    rintro e w6 ⟨rfl, L6, m6, v6⟩
    go_wp2_with fail
    go_end0
    exact ⟨rfl, L6, by rw [HRES.out]; exact m6, V5.trans v6⟩
  · have HRES := Lib.hid (show topM 11 S = pushM y (pushM y (popM S)) by rw [HY.out]; rfl)
    clear HY HC hl1 hl3
    generalize popM S = T at *
    go_wp2_with fail
    refine (push_any b0 g vp T L1 _ w2 M2.out (by omega) (by omega)).mono ?_
    rintro e w5 ⟨rfl, L5, m5, v5⟩
    have B5 := BY.out.fr v5.fr hyw2 HYL.out
    have y0 := B5.cell 0
    have y1 := B5.cell 1
    simp at y0 y1
    have hlt := v5.fr.size
    go_wp2_with fail
    refine (push_any b0 g vp (pushM y T) L5 _ w5 m5 (by omega) (by simp [pushM]; omega)).mono ?_
    rintro e w6 ⟨rfl, L6, m6, v6⟩
    go_wp2_with fail
    go_end0
    exact ⟨rfl, L6, by rw [HRES.out]; exact m6, (V2.out.trans v5).trans v6⟩
  · have HRES := Lib.hid (show topM 12 S = pushM (topV (popM S).s) (pushM y (popM (popM S))) by rw [HY.out]; rfl)
    have hlp : 0 < (popM S).s.length := hl1 rfl
    have HP2 := Lib.hid (pop_any b0 g vp (popM S) L1 w2 M2.out (by omega) hlp (by omega))
    have hl4 : (popM (popM S)).s.length ≤ 1000 := by show (popM S).s.dropLast.length ≤ 1000; rw [List.length_dropLast]; omega
    clear HY HC hl1 hl3 hl2
    generalize popM S = T at *
    go_wp2_with fail
    refine HP2.out.mono ?_
    rintro e w3 ⟨rfl, L3, hm3, hv3⟩
    have BY3 := Lib.hid (BY.out.fr hv3.fr hyw2 HYL.out)
    have HYL3 := Lib.hid (hv3.old hyw2 HYL.out)
    have M3 := Lib.hid hm3
    have V3 := Lib.hid (V2.out.trans hv3)
    have hw3 : gy < w3.heap.size := BY3.out.lt
    clear HP2 M2 V2 BY HYL hm3 hv3 y0 y1
    generalize popM T = T2 at *
    generalize topV T.s = x at *
    go_upto_region 11 with fail
    have fa := (Fr.refl w3.heap.size [] w3).alloc (Nat.le_refl _) (.cells #[.int .i64 x.1, .int .i64 x.2] 42)
    have BX := Lib.hid (Blk.new w3 42 #[.int .i64 x.1, .int .i64 x.2])
    have BY4 := Lib.hid (BY3.out.fr fa BY3.out.lt (by simp))
    have M4 := Lib.hid (M3.out.mv fa)
    have V4 := Lib.hid (V3.out.fr_ fa)
    obtain ⟨gx, hgx⟩ : ∃ gx, gx = w3.heap.size := ⟨_, rfl⟩
    have HXL := Lib.hid (show gx ∉ L3 from fun c => by have := M3.out.lt gx c; omega)
    rw [← hgx] at BX hw3 ⊢
    clear fa hgx M3 V3 BY3 HYL3
    generalize w3.alloc (.cells #[.int .i64 x.1, .int .i64 x.2] 42) = w4 at *
    have hxw : gx < w4.heap.size := BX.out.lt
    have y0 := BY4.out.cell 0
    have y1 := BY4.out.cell 1
    have x0 := BX.out.cell 0
    have x1 := BX.out.cell 1
    simp at y0 y1 x0 x1
    go_wp2_with fail
    refine (push_any b0 g vp T2 L3 _ w4 M4.out (by omega) (by omega)).mono ?_
    rintro e w5 ⟨rfl, L5, m5, v5⟩
    have B5 := BX.out.fr v5.fr hxw HXL.out
    clear x0 x1 y0 y1
    have x0 := B5.cell 0
    have x1 := B5.cell 1
    simp at x0 x1
    have hlt := v5.fr.size
    go_wp2_with fail
    refine (push_any b0 g vp (pushM y T2) L5 _ w5 m5 (by omega) (by simp [pushM]; omega)).mono ?_
    rintro e w6 ⟨rfl, L6, m6, v6⟩
    go_wp2_with fail
    go_end0
    exact ⟨rfl, L6, by rw [HRES.out]; exact m6, (V4.out.trans v5).trans v6⟩
  · have HRES := Lib.hid (show topM 13 S = popM S from rfl)
    clear HY HC hl1 hl3
    generalize popM S = T at *
    go_wp2_with fail
    go_end0
    exact ⟨rfl, L1, by rw [HRES.out]; exact M2.out, V2.out⟩
  · have HRES := Lib.hid (show topM 14 S = emitM y (popM S) by rw [HY.out]; rfl)
    clear HY HC hl1 hl2
    generalize popM S = T at *
    obtain ⟨Ao, no, co, As, ns, cs, ho, hs, hB, hO, hS, hoff, hL⟩ := M2.out
    have hno : no ≤ 1000 := by omega
    have hol : ∀ q, (Value.slice Ao no co).ownBlock = some q → q < w2.heap.size := fun q hq => (hO.lt q hq).2
    have B1 := Lib.hid hB
    have O1 := Lib.hid hO
    have S1 := Lib.hid hS
    have HOL := Lib.hid hol
    have HSL := Lib.hid (fun q (hq : (Value.slice As ns cs).ownBlock = some q) => (hS.lt q hq).2)
    have HLg : g ∈ L1 := by rw [hL]; simp
    have HLo := Lib.hid (fun q (hq : (Value.slice Ao no co).ownBlock = some q) => (by rw [hL, hq]; simp : q ∈ L1))
    have HLs := Lib.hid (fun q (hq : (Value.slice As ns cs).ownBlock = some q) => (by rw [hL, hq]; simp : q ∈ L1))
    have HOFF := Lib.hid hoff
    have HNO := Lib.hid ho
    have HNS := Lib.hid hs
    have hgw2 := hB.lt
    have F1 := Lib.hid (Fr.refl w2.heap.size L1 w2)
    clear hB hO hS hoff hL ho hs hol M2 hl3
    go_upto_region 14 with fail
    have ho := O1.out
    have hcr := B1.out.cell 0
    have hfz := B1.out.frozen 0
    have hoff : (Value.slice Ao no co).ownBlock ≠ some g := Ne.symm (B1.out.ne_own ho (by decide))
    have r0 := BY.out.cell 0
    have r1 := BY.out.cell 1
    simp [mcA] at r0 r1 hcr
    have hcrA : (w2.alloc (.cells #[.int .i64 y.1, .int .i64 y.2] 42)).cell? ⟨g, 0, none⟩ = some (.slice Ao no co) := (B1.out.alloc _).cell 0
    obtain ⟨i0, hi0, hz0, hz1, hz2⟩ := info_parts (show (Tryz.prog.info? 42).map (fun i => (i.zero, i.size, i.bytes)) = some (some (.agg #[.int .i64 0, .int .i64 0]), 2, 16) by kernel_rfl)
    go_region_law
      ((refine step_append_lies _ (by rfl) _ _ _ (by rfl) b0 42 i0 _ 2 16 Tryz.underlying118 hi0 hz0 hz1 hz2 rfl (by omega) (.slice Ao no co) no _ (by rfl) ((ho.alloc _).drew)
          ⟨w2.heap.size, 0, none⟩ 1 1 (valC y) (by rfl) (by rfl) (World.news_of_block (cs := (valC y).toArray) (t := 42) (fr := (0, 0)) (heap_alloc_new w2 _)) (by simp [valC, Value.oneCell'])
          (by omega) (by unfold maxLen; omega) (by omega) (by simp; omega) (w2.heap.size + 1) (by simp) ?_; intro gg cap w6 hown1 hgrow hat hlt6; have hfz6 : w6.frozen? ⟨g, 0, none⟩ = false := (hgrow.frozen_far ⟨g, 0, none⟩ (by simp; omega) (Ne.symm hoff)).trans ((B1.out.alloc _).frozen 0); have hcr6 : w6.cell? ⟨g, 0, none⟩ = some (.slice Ao no co) := (hgrow.cell_far ⟨g, 0, none⟩ (by simp; omega) (Ne.symm hoff)).trans (((B1.out.alloc _).cell 0))))
    all_goals
      go_wp2_with fail
      have hba := (B1.out.alloc (.cells #[.int .i64 y.1, .int .i64 y.2] 42)).drew
      have hb6 : Blk w6 g 247 (mcA (.slice Ao no co) T vp (.slice As ns cs)) := (hgrow.block g hba.lt (Ne.symm hoff)).trans hba
      have fg := ((Fr.refl w2.heap.size (Value.slice Ao no co).ownBlock.toList w2).alloc (Nat.le_refl _) (.cells #[.int .i64 y.1, .int .i64 y.2] 42)).drew.grown hgrow (by simp) (fun q hq => .inr (by simp [hq]))
      have hS6 := ownsRow_fr S1.out fg (fun q hq => ⟨(S1.out.lt q hq).2, by simp only [Option.mem_toList]; exact fun e => HOFF.out q e hq⟩)
      have hog : (Value.slice As ns cs).ownBlock ≠ some g := Ne.symm (B1.out.ne_own S1.out (by decide))
      have hgg : (Value.slice Ao no co).ownBlock = some gg ∨ w2.heap.size ≤ gg := by
        rcases hat with hat | hat
        · exact .inl hat
        · exact .inr (by omega)
      go_end0
      refine ⟨rfl, g :: ([gg] ++ (Value.slice As ns cs).ownBlock.toList), ?_, ?_⟩
      · rw [HRES.out]
        refine ⟨some ⟨gg, 0, none⟩, no + 1, cap, As, ns, cs, by simp [emitM, HNO.out], HNS.out, ?_, ?_, ?_, ?_, rfl⟩
        · exact hb6.set_ 0 (.slice (some ⟨gg, 0, none⟩) (no + 1) cap)
        · have h5 : (w6.setCell ⟨g, 0, none⟩ (.slice (some ⟨gg, 0, none⟩) (no + 1) cap)).ownsRow b0 42 2 (.slice (some ⟨gg, 0, none⟩) (no + 1) cap) (no + 1) (cellsV T.o ++ valC y) := ownsRow_setCell_other hown1 (Ne.symm (hb6.ne_own hown1 (by decide))) _
          simp only [emitM, cellsV_app]
          simpa [cellsV] using h5
        · exact ownsRow_setCell_other hS6 (by simpa using hog) _
        · intro q hq he
          have e : gg = q := by simpa [Value.ownBlock] using hq
          subst e
          rcases hgg with c | c
          · exact HOFF.out _ c he
          · exact absurd (HSL.out _ he) (by omega)
      · refine V2.out.trans ⟨?_, ?_⟩
        · exact ((((F1.out.alloc (by omega) _).drew).grown hgrow (by simp) (fun q hq => .inr (HLo.out q hq))).setCell (p := ⟨g, 0, none⟩) (.inr HLg) _)
        · intro q hq
          simp only [List.mem_cons, List.mem_append, Option.mem_toList] at hq
          rcases hq with e | (e | e) | e
          · subst e; exact .inl HLg
          · subst e
            rcases hgg with c | c
            · exact .inl (HLo.out _ c)
            · exact .inr c
          · cases e
          · exact .inl (HLs.out q e)
end Go.Proofs.YthfibggbipkmfaaGreat
namespace Go.Proofs.YthfibggbipkmfaaGreat
open Go.RowKit Go.Fb
set_option linter.unusedVariables false
/-- As Q; by a goto: J. -/
def jumpsX (J : Nat → Act → World → Prop) (Q : Exit → Act → World → Prop) : Exit → Act → World → Prop
  | .goto l, a, w => J l a w
  | e, a, w => Q e a w
theorem wp_scope_labels {P : Program} {a : Act} {w : World} {Q : Exit → Act → World → Prop} {c : Code} (J : Nat → Nat → Act → World → Prop)
    (hfb : ∀ l n a w, J l n a w → ∃ b, (findLabel c l = some (.seq .skip b) ∨ findLabel c l = some b ∧ ∀ d, b ≠ .seq .skip d) ∧ b.wp P (jumpsX (fun l' a' w' => ∃ n', n' < n ∧ J l' n' a' w') Q) a w)
    (first : (∀ l n a w, J l n a w → ∀ b, findLabel c l = some (.seq .skip b) → b.wp P (jumpsX (fun l' a' w' => ∃ n, J l' n a' w') Q) a w) → c.wp P (jumpsX (fun l' a' w' => ∃ n, J l' n a' w') Q) a w) : (Code.scope c).wp P Q a w := by
  have hf : ∀ l n a w, J l n a w → ∃ R, findLabel c l = some R ∧ R.wp P (jumpsX (fun l' a' w' => ∃ n', n' < n ∧ J l' n' a' w') Q) a w := fun l n a w hJ => by
    obtain ⟨b, h | h, hb⟩ := hfb l n a w hJ
    · exact ⟨_, h, wp_seq (wp_skip hb)⟩
    · exact ⟨_, h.1, hb⟩
  replace first := first fun l n a w hJ b hb => by
    obtain ⟨b', h | h, hw⟩ := hfb l n a w hJ
    · rw [hb] at h
      injection h with h
      injection h with _ h
      subst h
      refine wp_mono hw fun e a w hq => ?_
      cases e <;> first | exact hq | (obtain ⟨n', _, hJ'⟩ := hq; exact ⟨n', hJ'⟩)
    · rw [hb] at h
      obtain ⟨h, hne⟩ := h
      injection h with h
      exact absurd h.symm (hne b)
  intro f k cs
  have hg : ∀ l R, findLabel c l = some R → gotoIn l (.inScope c :: k) = some (.code R :: .inScope c :: k) := fun l R h => by simp [gotoIn, h]
  have key : ∀ n l a w, J l n a w → ∃ R, findLabel c l = some R ∧ ∃ e a' w', Q e a' w' ∧ Arrives P (lone (f.at a (.code R :: .inScope c :: k)) cs w) f k cs e a' w' := by
    intro n
    induction n using Nat.strongRecOn with
    | _ n ih =>
      intro l a w hJ
      obtain ⟨R, hR, pass⟩ := hf l n a w hJ
      refine ⟨R, hR, ?_⟩
      obtain ⟨e, a₁, w₁, hq, harr⟩ := pass f (.inScope c :: k) cs
      cases e with
      | normal => exact ⟨.normal, a₁, w₁, hq, Steps.trans harr (.one step_inScope)⟩
      | exit id => exact ⟨.exit id, a₁, w₁, hq, fun k' hk => harr k' (by simp [exitTo, hk])⟩
      | goto l' =>
        obtain ⟨n', hlt, hJ'⟩ := hq
        obtain ⟨R', hR', e₂, a₂, w₂, hq₂, harr₂⟩ := ih n' hlt l' a₁ w₁ hJ'
        exact ⟨e₂, a₂, w₂, hq₂, .of_steps (harr _ (hg _ _ hR')) harr₂⟩
      | ret => exact ⟨_, a₁, w₁, hq, harr⟩
      | panic ch => exact ⟨_, a₁, w₁, hq, harr⟩
      | outgrown => exact ⟨_, a₁, w₁, hq, harr⟩
  obtain ⟨e, a₁, w₁, hq, harr⟩ := first f (.inScope c :: k) cs
  cases e with
  | normal => exact ⟨.normal, a₁, w₁, hq, .head step_scope (Steps.trans harr (.one step_inScope))⟩
  | exit id => exact ⟨.exit id, a₁, w₁, hq, fun k' hk => .head step_scope (harr k' (by simp [exitTo, hk]))⟩
  | goto l' =>
    obtain ⟨n, hJ'⟩ := hq
    obtain ⟨R', hR', e₂, a₂, w₂, hq₂, harr₂⟩ := key n l' a₁ w₁ hJ'
    exact ⟨e₂, a₂, w₂, hq₂, .of_steps (.head step_scope (harr _ (hg _ _ hR'))) harr₂⟩
  | ret => exact ⟨_, a₁, w₁, hq, .of_steps (.one step_scope) harr⟩
  | panic ch => exact ⟨_, a₁, w₁, hq, .of_steps (.one step_scope) harr⟩
  | outgrown => exact ⟨_, a₁, w₁, hq, .of_steps (.one step_scope) harr⟩
theorem actM_at (i : Int × Int) (S : MS) : S.at_ ≤ (actM i S).at_ := by
  rcases act_at (i := i) (S := S) with e | ⟨_, e⟩ <;> omega
theorem runF_fuel (p : List (Int × Int)) : ∀ (f f' : Nat) (S : MS), p.length ≤ f + S.at_ → p.length ≤ f' + S.at_ → runF p f S = runF p f' S
  | 0, f', S, h, h' => by rw [runF_end (by omega), runF_end (by omega)]
  | f + 1, 0, S, h, h' => by rw [runF_end (by omega), runF_end (by omega)]
  | f + 1, f' + 1, S, h, h' => by
    unfold runF
    cases hp : p[S.at_]? with
    | none => rfl
    | some i =>
      simp only
      split
      · rfl
      · have := actM_at i (nextM S)
        have e : (nextM S).at_ = S.at_ + 1 := rfl
        exact runF_fuel p f f' _ (by omega) (by omega)
/-- What a program leaves. -/
def runE (p : List (Int × Int)) (S : MS) : MS := runF p 100 S
theorem runE_end {p : List (Int × Int)} {S : MS} (h : p.length ≤ S.at_) : runE p S = S := runF_end h _
theorem runE_halt {p : List (Int × Int)} {S : MS} {i : Int × Int} (h : p[S.at_]? = some i) (h0 : i.1 = 0) : runE p S = nextM S := by
  unfold runE runF
  rw [h]
  simp only
  rw [if_pos h0]
theorem runE_step {p : List (Int × Int)} {S : MS} {i : Int × Int} (hp : p.length ≤ 24) (h : p[S.at_]? = some i) (h0 : i.1 ≠ 0) : runE p S = runE p (actM i (nextM S)) := by
  have : runE p S = runF p 99 (actM i (nextM S)) := by
    conv => lhs; unfold runE runF
    rw [h]
    simp only
    rw [if_neg h0]
  rw [this]
  exact runF_fuel p 99 100 _ (by omega) (by omega)
/-- A machine that goes. -/
structure RunS (l : List (Int × Int)) (D : Nat → Int) (b0 g gi : Nat) (vp : Value) (F : MS) (L0 : List Nat) (w0 : World) (S : MS) (L : List Nat) (w : World) : Prop where
  inv : MInv l D S
  new_ : gi ∉ L ∧ w0.heap.size ≤ gi
  mv : Mv L0 w0 L w
  res : runE l S = F
  few : S.o.length ≤ S.at_
  base : b0 ≤ w.heap.size
  base0 : b0 ≤ w0.heap.size
/-- What holds at the labels: where it goes on, where it jumps, the end. -/
def RunJ (lf lj le : Nat) (l : List (Int × Int)) (D : Nat → Int) (b0 g gi : Nat) (vp : Value) (F : MS) (L0 : List Nat) (w0 : World) (k n : Nat) (w : World) : Prop :=
  (k = lf ∧ ∃ S L x y, n = 2 * (100 - S.at_) ∧ RunS l D b0 g gi vp F L0 w0 S L w ∧ MC b0 g vp S L w ∧ Blk w gi 121 #[.int .i64 x, .int .i64 y]) ∨
  (k = lj ∧ ∃ S L x y, n = 2 * (100 - S.at_) + 1 ∧ S.at_ ≤ 49 ∧ 1 ≤ y ∧ y ≤ 24 ∧ RunS l D b0 g gi vp F L0 w0 (jumpM y S) L w ∧ MC b0 g vp S L w ∧ Blk w gi 121 #[.int .i64 x, .int .i64 y]) ∨
  (k = le ∧ n = 0 ∧ ∃ L, MC b0 g vp F L w ∧ Mv L0 w0 L w)
theorem RunS.mvw {l : List (Int × Int)} {D : Nat → Int} {b0 g gi : Nat} {vp : Value} {F : MS} {L0 : List Nat} {w0 : World} {S : MS} {L : List Nat} {w w' : World} (h : RunS l D b0 g gi vp F L0 w0 S L w) (hf : Fr w.heap.size [] w w') : RunS l D b0 g gi vp F L0 w0 S L w' :=
  ⟨h.inv, h.new_, h.mv.fr_ hf, h.res, h.few, Nat.le_trans h.base hf.size, h.base0⟩
end Go.Proofs.YthfibggbipkmfaaGreat
namespace Go.Proofs.YthfibggbipkmfaaGreat
open Go.RowKit Go.Fb
set_option linter.unusedVariables false
theorem MC.at_ {b0 g : Nat} {vp : Value} {S : MS} {L : List Nat} {w : World} (h : MC b0 g vp S L w) (n : Nat) : MC b0 g vp { S with at_ := n } L (w.setCell ⟨g, 9, none⟩ (.int .i64 (n : Int))) := by
  obtain ⟨Ao, no, co, As, ns, cs, h1, h2, h3, h4, h5, h6, h7⟩ := h
  refine ⟨Ao, no, co, As, ns, cs, h1, h2, ?_, own_far h3 h4 (by decide) 9 _, own_far h3 h5 (by decide) 9 _, h6, h7⟩
  have := h3.set_ 9 (.int .i64 (n : Int))
  simpa [mcA] using this
theorem MC.st_ {b0 g : Nat} {vp : Value} {S : MS} {L : List Nat} {w : World} (h : MC b0 g vp S L w) (n : Int) : MC b0 g vp { S with st := n } L (w.setCell ⟨g, 5, none⟩ (.int .i64 n)) := by
  obtain ⟨Ao, no, co, As, ns, cs, h1, h2, h3, h4, h5, h6, h7⟩ := h
  refine ⟨Ao, no, co, As, ns, cs, h1, h2, ?_, own_far h3 h4 (by decide) 5 _, own_far h3 h5 (by decide) 5 _, h6, h7⟩
  have := h3.set_ 5 (.int .i64 n)
  simpa [mcA] using this
theorem MC.c0_ {b0 g : Nat} {vp : Value} {S : MS} {L : List Nat} {w : World} (h : MC b0 g vp S L w) (v : Int × Int) : MC b0 g vp { S with c := (v, S.c.2) } L ((w.setCell ⟨g, 1, none⟩ (.int .i64 v.1)).setCell ⟨g, 2, none⟩ (.int .i64 v.2)) := by
  obtain ⟨Ao, no, co, As, ns, cs, h1, h2, h3, h4, h5, h6, h7⟩ := h
  have k1 := h3.set_ 1 (.int .i64 v.1)
  refine ⟨Ao, no, co, As, ns, cs, h1, h2, ?_, own_far k1 (own_far h3 h4 (by decide) 1 _) (by decide) 2 _, own_far k1 (own_far h3 h5 (by decide) 1 _) (by decide) 2 _, h6, h7⟩
  have := k1.set_ 2 (.int .i64 v.2)
  simpa [mcA] using this
theorem MC.c1_ {b0 g : Nat} {vp : Value} {S : MS} {L : List Nat} {w : World} (h : MC b0 g vp S L w) (v : Int × Int) : MC b0 g vp { S with c := (S.c.1, v) } L ((w.setCell ⟨g, 3, none⟩ (.int .i64 v.1)).setCell ⟨g, 4, none⟩ (.int .i64 v.2)) := by
  obtain ⟨Ao, no, co, As, ns, cs, h1, h2, h3, h4, h5, h6, h7⟩ := h
  have k1 := h3.set_ 3 (.int .i64 v.1)
  refine ⟨Ao, no, co, As, ns, cs, h1, h2, ?_, own_far k1 (own_far h3 h4 (by decide) 3 _) (by decide) 4 _, own_far k1 (own_far h3 h5 (by decide) 3 _) (by decide) 4 _, h6, h7⟩
  have := k1.set_ 4 (.int .i64 v.2)
  simpa [mcA] using this
theorem MC.blk {b0 g : Nat} {vp : Value} {S : MS} {L : List Nat} {w : World} (h : MC b0 g vp S L w) : ∃ vo vs, Blk w g 247 (mcA vo S vp vs) := by
  obtain ⟨Ao, no, co, As, ns, cs, h1, h2, h3, h4, h5, h6, h7⟩ := h
  exact ⟨_, _, h3⟩
theorem MC.own {b0 g : Nat} {vp : Value} {S : MS} {L : List Nat} {w : World} (h : MC b0 g vp S L w) : g ∈ L := by
  obtain ⟨Ao, no, co, As, ns, cs, h1, h2, h3, h4, h5, h6, h7⟩ := h
  rw [h7]; simp
theorem actM_o (i : Int × Int) (S : MS) : (actM i S).o.length ≤ S.o.length + 1 := by
  refine act_cases (fun X => X.o.length ≤ S.o.length + 1) (fun _ => Nat.le_succ _) (fun _ => Nat.le_succ _) (Nat.le_succ _) (Nat.le_succ _) (Nat.le_succ _) (fun c => ?_) (fun _ => Nat.le_succ _) (Nat.le_succ _) ?_
  · unfold jzM; split <;> exact Nat.le_succ _
  · refine top_cases (fun X => X.o.length ≤ S.o.length + 1) (Nat.le_succ _) (Nat.le_succ _) (Nat.le_succ _) (Nat.le_succ _) ?_ (Nat.le_succ _)
    simp
theorem RunS.far {l : List (Int × Int)} {D : Nat → Int} {b0 g gi : Nat} {vp : Value} {F : MS} {L0 : List Nat} {w0 : World} {S : MS} {L : List Nat} {w w' : World} (h : RunS l D b0 g gi vp F L0 w0 S L w) (hf : Fr w.heap.size [gi] w w') : RunS l D b0 g gi vp F L0 w0 S L w' :=
  ⟨h.inv, h.new_, ⟨h.mv.fr.trans (hf.mono h.mv.fr.size (fun q hq hlt => by simp at hq; have := h.new_.2; omega)), h.mv.of⟩, h.res, h.few, Nat.le_trans h.base hf.size, h.base0⟩
theorem Mv.set_ {L0 L : List Nat} {w0 w : World} (h : Mv L0 w0 L w) {p : Addr} (hp : p.block ∈ L) (u : Value) : Mv L0 w0 L (w.setCell p u) :=
  h.trans ⟨(Fr.refl w.heap.size L w).setCell (.inr hp) u, fun q hq => .inl hq⟩
/-- One instruction has been done. -/
theorem RunS.next {l : List (Int × Int)} {D : Nat → Int} {b0 g gi : Nat} {vp : Value} {F : MS} {L0 : List Nat} {w0 : World} {S : MS} {L : List Nat} {w : World} (h : RunS l D b0 g gi vp F L0 w0 S L w) (P : SafeD l D) {i : Int × Int} (hi : l[S.at_]? = some i) (h0 : i.1 ≠ 0) {S' : MS} (hS : actM i (nextM S) = S') {L' : List Nat} {w' : World} (hg : gi ∉ L') (hv : Mv L0 w0 L' w') :
    RunS l D b0 g gi vp F L0 w0 S' L' w' := by
  subst hS
  refine ⟨(h.inv.act P hi h0).1, ⟨hg, h.new_.2⟩, hv, by rw [← runE_step P.fit.1 hi h0]; exact h.res, ?_, Nat.le_trans h.base0 hv.fr.size, h.base0⟩
  have h1 := actM_o i (nextM S)
  have h2 := actM_at i (nextM S)
  have h3 := h.few
  have e : (nextM S).at_ = S.at_ + 1 := rfl
  have e2 : (nextM S).o = S.o := rfl
  rw [e2] at h1
  omega
theorem act_fn (a : Act) (g gi : Nat) (h1 : a.tmps.size = 117) (h2 : a.tmps[0]? = some (.pointer (some ⟨g, 0, none⟩))) (h3 : a.tmps[2]? = some (.pointer (some ⟨gi, 0, none⟩))) (h4 : a.defers = []) : ∃ u : Nat → Value, a = { tmps := #[.pointer (some ⟨g, 0, none⟩), u 1, .pointer (some ⟨gi, 0, none⟩), u 3, u 4, u 5, u 6, u 7, u 8, u 9, u 10, u 11, u 12, u 13, u 14, u 15, u 16, u 17, u 18, u 19, u 20, u 21, u 22, u 23, u 24, u 25, u 26, u 27, u 28, u 29, u 30, u 31, u 32, u 33, u 34, u 35, u 36, u 37, u 38, u 39, u 40, u 41, u 42, u 43, u 44, u 45, u 46, u 47, u 48, u 49, u 50, u 51, u 52, u 53, u 54, u 55, u 56, u 57, u 58, u 59, u 60, u 61, u 62, u 63, u 64, u 65, u 66, u 67, u 68, u 69, u 70, u 71, u 72, u 73, u 74, u 75, u 76, u 77, u 78, u 79, u 80, u 81, u 82, u 83, u 84, u 85, u 86, u 87, u 88, u 89, u 90, u 91, u 92, u 93, u 94, u 95, u 96, u 97, u 98, u 99, u 100, u 101, u 102, u 103, u 104, u 105, u 106, u 107, u 108, u 109, u 110, u 111, u 112, u 113, u 114, u 115, u 116], defers := [] } := by
  obtain ⟨t, d⟩ := a
  simp only at h1 h2 h3 h4
  subst h4
  refine ⟨fun i => t[i]?.getD undef, ?_⟩
  have key : t = ((List.range 117).map fun i => t[i]?.getD undef).toArray := by
    apply Array.ext
    · simp [h1]
    · intro i h _
      simp [Array.getElem?_eq_getElem h]
  have e0 : t[0]?.getD undef = .pointer (some ⟨g, 0, none⟩) := by rw [h2]; rfl
  have e2 : t[2]?.getD undef = .pointer (some ⟨gi, 0, none⟩) := by rw [h3]; rfl
  congr 1
  obtain ⟨f, hf⟩ : ∃ f : Nat → Value, f = fun i : Nat => t[i]?.getD undef := ⟨_, rfl⟩
  have e0 : f 0 = .pointer (some ⟨g, 0, none⟩) := by rw [hf]; exact e0
  have e2 : f 2 = .pointer (some ⟨gi, 0, none⟩) := by rw [hf]; exact e2
  rw [← hf] at key ⊢
  refine key.trans ?_
  rw [← e0, ← e2]
  rfl
set_option maxRecDepth 100000 in
set_option maxHeartbeats 16000000 in
theorem run_any (b0 g : Nat) (Ap : Option Addr) (cp B : Nat) (l : List (Int × Int)) (D : Nat → Int) (S0 : MS) (L0 : List Nat) (w0 : World) (hP : SafeD l D) (hI : MInv l D S0) (hf : S0.o.length ≤ S0.at_) (hM : MC b0 g (.slice Ap l.length cp) S0 L0 w0) (hb : b0 ≤ w0.heap.size)
    (hrd : Reads w0 B 2 Ap l.length (cellsI l)) (hB : B ≤ w0.heap.size) (hL : ∀ q ∈ L0, B ≤ q) :
    Calls Tryz.prog 176 #[.pointer (some ⟨g, 0, none⟩)] w0 fun e w' => e = .returned (.tuple #[]) ∧ ∃ L', MC b0 g (.slice Ap l.length cp) (runE l S0) L' w' ∧ Mv L0 w0 L' w' := by
  obtain ⟨F, hF⟩ : ∃ F, F = runE l S0 := ⟨_, rfl⟩
  rw [← hF]
  have HP := Lib.hid hP
  have HRD := Lib.hid (fun (L : List Nat) (w : World) (h : Mv L0 w0 L w) => (hrd.fr h.fr hB hL : Reads w B 2 Ap l.length (cellsI l)))
  have BI := Lib.hid (Blk.new w0 121 #[.int .i64 0, .int .i64 0])
  have fa := (Fr.refl w0.heap.size [] w0).alloc (Nat.le_refl _) (.cells #[.int .i64 0, .int .i64 0] 121)
  have M0 := Lib.hid (hM.mv fa)
  obtain ⟨gi, hgi⟩ : ∃ gi, gi = w0.heap.size := ⟨_, rfl⟩
  have S0' := Lib.hid (show RunS l D b0 g gi (.slice Ap l.length cp) F L0 w0 S0 L0 (w0.alloc (.cells #[.int .i64 0, .int .i64 0] 121)) from ⟨hI, ⟨fun c => by have := hM.lt gi c; omega, by omega⟩, (Mv.refl L0 w0).fr_ fa, hF.symm, hf, Nat.le_trans hb fa.size, hb⟩)
  rw [← hgi] at BI
  have HGI := Lib.hid hgi
  have h24 := hP.fit.1
  have hgne : g ≠ gi := by have := hM.lt g hM.own; omega
  have hgiw : w0.heap.size ≤ gi := by omega
  clear fa hP hI hf hM hb hrd hB hL hF hgi
  go_enter Tryz.func176, Tryz.ntmps176
  go_wp2_with fail
  refine wp_scope_labels (fun k n a w => a.tmps.size = 117 ∧ a.tmps[0]? = some (.pointer (some ⟨g, 0, none⟩)) ∧ a.tmps[2]? = some (.pointer (some ⟨gi, 0, none⟩)) ∧ a.defers = [] ∧ RowKit.Hid (RunJ 1 2 0 l D b0 g gi (.slice Ap l.length cp) F L0 w0 k n w)) ?pass ?first
  case' first =>
    intro HFIRST
    go_wp2_with fail
    go_step3
    rw [← HGI.out]
    generalize w0.alloc (.cells #[.int .i64 0, .int .i64 0] 121) = w1 at *
    rename_i hK
    refine hK _ _ ?_
    clear hK
    refine HFIRST 1 (2 * (100 - S0.at_)) _ _ ⟨rfl, rfl, rfl, rfl, Lib.hid (.inl ⟨rfl, S0, L0, 0, 0, rfl, S0'.out, M0.out, BI.out⟩)⟩ _ rfl
  case' pass =>
    clear BI M0 S0' HGI
    rintro k n a w ⟨ha1, ha2, ha3, ha4, HJ⟩
    obtain ⟨u, hu⟩ : ∃ u : Nat → Value, a = { tmps := #[.pointer (some ⟨g, 0, none⟩), u 1, .pointer (some ⟨gi, 0, none⟩), u 3, u 4, u 5, u 6, u 7, u 8, u 9, u 10, u 11, u 12, u 13, u 14, u 15, u 16, u 17, u 18, u 19, u 20, u 21, u 22, u 23, u 24, u 25, u 26, u 27, u 28, u 29, u 30, u 31, u 32, u 33, u 34, u 35, u 36, u 37, u 38, u 39, u 40, u 41, u 42, u 43, u 44, u 45, u 46, u 47, u 48, u 49, u 50, u 51, u 52, u 53, u 54, u 55, u 56, u 57, u 58, u 59, u 60, u 61, u 62, u 63, u 64, u 65, u 66, u 67, u 68, u 69, u 70, u 71, u 72, u 73, u 74, u 75, u 76, u 77, u 78, u 79, u 80, u 81, u 82, u 83, u 84, u 85, u 86, u 87, u 88, u 89, u 90, u 91, u 92, u 93, u 94, u 95, u 96, u 97, u 98, u 99, u 100, u 101, u 102, u 103, u 104, u 105, u 106, u 107, u 108, u 109, u 110, u 111, u 112, u 113, u 114, u 115, u 116], defers := [] } := act_fn a g gi ha1 ha2 ha3 ha4
    clear ha1 ha2 ha3 ha4
    subst hu
    rcases HJ.out with ⟨rfl, S, L, x, y, hn, hs, hm, hbi⟩ | ⟨rfl, S, L, x, y, hn, h49, hy1, hy2, hs, hm, hbi⟩ | ⟨rfl, hn, L, hm, hv⟩
    · refine ⟨_, .inl rfl, ?_⟩
      have HS := Lib.hid hs
      have HM := Lib.hid hm
      have BI := Lib.hid hbi
      have h49 := hs.inv.at_
      have h8 := hs.inv.small
      have hfew := hs.few
      obtain ⟨vo, vs, hbk⟩ := hm.blk
      have BK := Lib.hid hbk
      have HN := Lib.hid hn
      clear HJ hs hm hbi hbk hn
      have c9 : w.cell? ⟨g, 9, none⟩ = some (.int .i64 (S.at_ : Int)) := BK.out.cell 9
      have c6 : w.cell? ⟨g, 6, none⟩ = some (.slice Ap l.length cp) := BK.out.cell 6
      have hlen : ((l.length : Nat) : Int) ≤ 24 := by omega
      obtain ⟨nl, hnl⟩ : ∃ nl, nl = l.length := ⟨_, rfl⟩
      obtain ⟨at_, hat⟩ : ∃ t, t = S.at_ := ⟨_, rfl⟩
      rw [← hnl] at c6 hlen
      rw [← hat] at c9 h49 hfew
      have HNL := Lib.hid hnl
      have HAT := Lib.hid hat
      have hati : (0 : Int) ≤ (at_ : Int) := by omega
      clear hnl hat
      by_cases hend : nl ≤ at_
      · have hge : ((nl : Nat) : Int) ≤ (at_ : Int) := by omega
        go_wp2_with fail
        go_quiet (fail)
        go_wp2_with fail
        go_step3
        refine ⟨0, ?_, rfl, rfl, rfl, rfl, Lib.hid (.inr (.inr ⟨rfl, rfl, L, ?_, HS.out.mv.fr_ ((Fr.refl _ _ _).drewN _)⟩))⟩
        · rw [HN.out]; rw [HAT.out] at h49; omega
        · rw [← HS.out.res, runE_end (by rw [← HAT.out, ← HNL.out]; exact hend)]
          exact HM.out.mv ((Fr.refl _ _ _).drewN _)
      · have hlt : (at_ : Int) < ((nl : Nat) : Int) := by omega
        go_wp2_with fail
        go_quiet (fail)
        have fd := (Fr.refl w.heap.size [] w).drewN nq
        have HS1 := Lib.hid (HS.out.mvw fd)
        have HM1 := Lib.hid (HM.out.mv fd)
        have BI1 := Lib.hid (BI.out.drewN nq)
        have BK1 := Lib.hid (BK.out.drewN nq)
        clear fd HS HM BI BK c9 c6
        generalize w.drewN nq = w1 at *
        obtain ⟨i, hi⟩ : ∃ i, l[at_]? = some i := ⟨_, List.getElem?_eq_getElem (by rw [← HNL.out]; omega)⟩
        have HI := Lib.hid hi
        obtain ⟨bp, op, hAp, hbp, p0, p1⟩ := reads_ins (HRD.out L w1 HS1.out.mv) hi
        subst hAp
        obtain ⟨ip, ia⟩ := i
        simp only at p0 p1
        have c9 : w1.cell? ⟨g, 9, none⟩ = some (.int .i64 (at_ : Int)) := by rw [HAT.out]; exact BK1.out.cell 9
        have c6 : w1.cell? ⟨g, 6, none⟩ = some (.slice (some ⟨bp, op, none⟩) nl cp) := by rw [HNL.out]; exact BK1.out.cell 6
        have g0 := BI1.out.cell 0
        have g1 := BI1.out.cell 1
        have z0 := BI1.out.frozen 0
        have z1 := BI1.out.frozen 1
        simp at g0 g1
        clear hi
        go_upto_region 2 with fail
        go_region
        have fI := (((Fr.refl w1.heap.size [gi] w1).setCell (p := ⟨gi, 0, none⟩) (.inr (by simp)) (.int .i64 ip)).setCell (p := ⟨gi, 1, none⟩) (.inr (by simp)) (.int .i64 ia)).drew
        have HS2 := Lib.hid (HS1.out.far fI)
        have HM2 := Lib.hid (HM1.out.far fI HS1.out.new_.1)
        have BI2 := ((BI1.out.set_ 0 (.int .i64 ip)).set_ 1 (.int .i64 ia)).drew
        simp only [List.setIfInBounds_toArray, List.set_cons_zero, List.set_cons_succ] at BI2
        replace BI2 := Lib.hid BI2
        clear fI HS1 HM1 BI1 BK1 p0 p1 c9 c6 g0 g1 z0 z1
        generalize ((w1.setCell ⟨gi, 0, none⟩ (.int .i64 ip)).setCell ⟨gi, 1, none⟩ (.int .i64 ia)).drew = w2 at *
        obtain ⟨vo2, vs2, hbk⟩ := HM2.out.blk
        have c9 : w2.cell? ⟨g, 9, none⟩ = some (.int .i64 (at_ : Int)) := by rw [HAT.out]; exact hbk.cell 9
        have z9 := hbk.frozen 9
        have hgL := HM2.out.own
        have hwr : wrap64 ((at_ : Int) + 1) = (at_ : Int) + 1 := by unfold wrap64; omega
        clear hbk
        go_upto_region 4 with fail
        have HM3 := Lib.hid (show MC b0 g (.slice (some ⟨bp, op, none⟩) l.length cp) { S with at_ := at_ + 1 } L (w2.setCell ⟨g, 9, none⟩ (.int .i64 ((at_ : Int) + 1))) from HM2.out.at_ (at_ + 1))
        have HV3 := Lib.hid (HS2.out.mv.set_ (p := ⟨g, 9, none⟩) hgL (.int .i64 ((at_ : Int) + 1)))
        have BI3 := Lib.hid (BI2.out.far (p := ⟨g, 9, none⟩) (Ne.symm hgne) (.int .i64 ((at_ : Int) + 1)))
        clear c9 z9 HM2 BI2 hwr
        generalize w2.setCell ⟨g, 9, none⟩ (.int .i64 ((at_ : Int) + 1)) = w3 at *
        obtain ⟨vo3, vs3, hbk⟩ := HM3.out.blk
        obtain ⟨st, hst⟩ : ∃ x, x = S.st := ⟨_, rfl⟩
        have c5 : w3.cell? ⟨g, 5, none⟩ = some (.int .i64 st) := by rw [hst]; exact hbk.cell 5
        have z5 := hbk.frozen 5
        have HST := Lib.hid hst
        clear hbk hst
        go_upto_region 5 with fail
        have HM4 := Lib.hid (show MC b0 g (.slice (some ⟨bp, op, none⟩) l.length cp) (nextM S) L (w3.setCell ⟨g, 5, none⟩ (.int .i64 (wrap64 (st + 1)))) by
          have h := HM3.out.st_ (wrap64 (st + 1))
          rw [HST.out, HAT.out] at h
          rw [HST.out]
          exact h)
        have HV4 := Lib.hid (HV3.out.set_ (p := ⟨g, 5, none⟩) hgL (.int .i64 (wrap64 (st + 1))))
        have BI4 := Lib.hid (BI3.out.far (p := ⟨g, 5, none⟩) (Ne.symm hgne) (.int .i64 (wrap64 (st + 1))))
        clear c5 z5 HM3 HV3 BI3
        generalize w3.setCell ⟨g, 5, none⟩ (.int .i64 (wrap64 (st + 1))) = w4 at *
        clear HST
        have b0' := BI4.out.cell 0
        have b1' := BI4.out.cell 1
        simp at b0' b1'
        go_upto_region 7 with fail
        obtain ⟨hr1, hr2, hr3, hr4⟩ := right_jump (HP.out.fit.2 (ip, ia) (List.mem_of_getElem? HI.out))
        have HIT := Lib.hid (show l[S.at_]? = some (ip, ia) by rw [← HAT.out]; exact HI.out)
        have HTK := Lib.hid (fun (h0 : ip ≠ 0) => (HS2.out.inv.act HP.out HIT.out h0).2)
        have HSN := Lib.hid (fun (h0 : ip ≠ 0) (S' : MS) (L' : List Nat) (w' : World) (hS : actM (ip, ia) (nextM S) = S') (hg : gi ∉ L') (hv : Mv L0 w0 L' w') => HS2.out.next HP.out HIT.out h0 hS hg hv)
        have HHA := Lib.hid (fun (h0 : ip = 0) => (HS2.out.res.symm.trans (runE_halt HIT.out h0) : F = nextM S))
        have HLT := Lib.hid (show 2 * (100 - (S.at_ + 1)) < n by rw [HN.out]; rw [HAT.out] at h49; omega)
        have HLJ := Lib.hid (show 2 * (100 - (S.at_ + 1)) + 1 < n by rw [HN.out]; rw [HAT.out] at h49; omega)
        have h49' : (nextM S).at_ ≤ 49 := by show S.at_ + 1 ≤ 49; rw [← HAT.out]; omega
        have HPJ := Lib.hid (fun (h0 : ip ≠ 0) => (HS2.out.inv.act HP.out HIT.out h0).1.at_)
        have hgi4 : gi < w4.heap.size := BI4.out.lt
        have HGL := Lib.hid HS2.out.new_.1
        have hb4 : b0 ≤ w4.heap.size := Nat.le_trans HS2.out.base0 HV4.out.fr.size
        have hTS : (nextM S).s.length ≤ 8 := h8
        have hTO : (nextM S).o.length ≤ 49 := by show S.o.length ≤ 49; omega
        have hc1 : (nextM S).x = S.x := rfl
        obtain ⟨vo4, vs4, hbk⟩ := HM4.out.blk
        have BK4 := Lib.hid hbk
        have hTL : (nextM S).s.length = S.s.length := rfl
        clear hbk HS2 HN HI b0' b1'
        have hop : ip = 0 ∨ ip = 1 ∨ ip = 2 ∨ ip = 3 ∨ ip = 4 ∨ ip = 5 ∨ ip = 6 ∨ ip = 7 ∨ ip = 8 ∨ ip = 9 ∨ ip = 10 ∨ ip = 11 ∨ ip = 12 ∨ ip = 13 ∨ ip = 14 ∨ ip = 15 ∨ ip = 16 ∨ ip = 17 := by simp only at hr1; omega
        have b0' := BI4.out.cell 0
        have b1' := BI4.out.cell 1
        simp at b0' b1'
        clear hr1
        rcases hop with rfl | rfl | rfl | rfl | rfl | rfl | rfl | rfl | rfl | rfl | rfl | rfl | rfl | rfl | rfl | rfl | rfl | rfl
        · go_wp2_with fail
          go_step3
          refine ⟨0, by have := HLT.out; omega, rfl, rfl, rfl, rfl, Lib.hid (.inr (.inr ⟨rfl, rfl, L, ?_, HV4.out⟩))⟩
          rw [HHA.out (by first | rfl | trivial)]
          exact HM4.out
        · go_wp2_with fail
          refine (push_any b0 g _ (nextM S) L (ia, 0) w4 HM4.out (by omega) (by omega)).mono ?_
          rintro e w5 ⟨rfl, L5, m5, v5⟩
          have b5 := BI4.out.fr v5.fr hgi4 HGL.out
          have hg5 := v5.old hgi4 HGL.out
          have hs5 := HSN.out (by decide) _ L5 w5 (rfl) hg5 (HV4.out.trans v5)
          go_wp2_with fail
          go_step3
          exact ⟨_, HLT.out, rfl, rfl, rfl, rfl, Lib.hid (.inl ⟨rfl, _, L5, _, _, rfl, hs5, m5, b5⟩)⟩
        · go_wp2_with fail
          refine (push_any b0 g _ (nextM S) L (0, ia) w4 HM4.out (by omega) (by omega)).mono ?_
          rintro e w5 ⟨rfl, L5, m5, v5⟩
          have b5 := BI4.out.fr v5.fr hgi4 HGL.out
          have hg5 := v5.old hgi4 HGL.out
          have hs5 := HSN.out (by decide) _ L5 w5 (rfl) hg5 (HV4.out.trans v5)
          go_wp2_with fail
          go_step3
          exact ⟨_, HLT.out, rfl, rfl, rfl, rfl, Lib.hid (.inl ⟨rfl, _, L5, _, _, rfl, hs5, m5, b5⟩)⟩
        · have c7 : w4.cell? ⟨g, 7, none⟩ = some (.int .i64 S.x.1) := BK4.out.cell 7
          have c8 : w4.cell? ⟨g, 8, none⟩ = some (.int .i64 S.x.2) := BK4.out.cell 8
          go_wp2_with fail
          refine (push_any b0 g _ (nextM S) L S.x w4 HM4.out (by omega) (by omega)).mono ?_
          rintro e w5 ⟨rfl, L5, m5, v5⟩
          have b5 := BI4.out.fr v5.fr hgi4 HGL.out
          have hg5 := v5.old hgi4 HGL.out
          have hs5 := HSN.out (by decide) _ L5 w5 (rfl) hg5 (HV4.out.trans v5)
          go_wp2_with fail
          go_step3
          exact ⟨_, HLT.out, rfl, rfl, rfl, rfl, Lib.hid (.inl ⟨rfl, _, L5, _, _, rfl, hs5, m5, b5⟩)⟩
        · have hj := hr3 (.inl rfl)
          have ha : ia = 0 ∨ ia = 1 := by simp only at hj; omega
          rcases ha with rfl | rfl
          · have c1 : w4.cell? ⟨g, 1, none⟩ = some (.int .i64 S.c.1.1) := BK4.out.cell 1
            have c2 : w4.cell? ⟨g, 2, none⟩ = some (.int .i64 S.c.1.2) := BK4.out.cell 2
            go_upto_region 15 with fail
            go_region_law ((rw [if_pos (by rfl)]; go_simp; refine (push_any b0 g _ (nextM S) L S.c.1 _ (HM4.out.mv (Fr.refl _ _ _).drew) (by simp; omega) (by omega)).mono ?_; rintro e w5 ⟨rfl, L5, m5, v5⟩; dsimp only))
            all_goals
              replace v5 := ((Mv.refl L w4).fr_ (Fr.refl _ _ _).drew).trans v5
              have b5 := BI4.out.fr v5.fr hgi4 HGL.out
              have hg5 := v5.old hgi4 HGL.out
              have hs5 := HSN.out (by decide) _ L5 w5 (rfl) hg5 (HV4.out.trans v5)
              go_wp2_with fail
              go_step3
              exact ⟨_, HLT.out, rfl, rfl, rfl, rfl, Lib.hid (.inl ⟨rfl, _, L5, _, _, rfl, hs5, m5, b5⟩)⟩
          
          · have c1 : w4.cell? ⟨g, 3, none⟩ = some (.int .i64 S.c.2.1) := BK4.out.cell 3
            have c2 : w4.cell? ⟨g, 4, none⟩ = some (.int .i64 S.c.2.2) := BK4.out.cell 4
            go_upto_region 15 with fail
            go_region_law ((rw [if_pos (by rfl)]; go_simp; refine (push_any b0 g _ (nextM S) L S.c.2 _ (HM4.out.mv (Fr.refl _ _ _).drew) (by simp; omega) (by omega)).mono ?_; rintro e w5 ⟨rfl, L5, m5, v5⟩; dsimp only))
            all_goals
              replace v5 := ((Mv.refl L w4).fr_ (Fr.refl _ _ _).drew).trans v5
              have b5 := BI4.out.fr v5.fr hgi4 HGL.out
              have hg5 := v5.old hgi4 HGL.out
              have hs5 := HSN.out (by decide) _ L5 w5 (rfl) hg5 (HV4.out.trans v5)
              go_wp2_with fail
              go_step3
              exact ⟨_, HLT.out, rfl, rfl, rfl, rfl, Lib.hid (.inl ⟨rfl, _, L5, _, _, rfl, hs5, m5, b5⟩)⟩
          
          
        · have hj := hr3 (.inr rfl)
          have ha : ia = 0 ∨ ia = 1 := by simp only at hj; omega
          have htk : 0 < (nextM S).s.length := by have h1 := HTK.out (by decide); have h2 : takesF 5 = 1 := rfl; simp only [h2] at h1; omega
          rcases ha with rfl | rfl
          · go_upto_region 17 with fail
            go_region_law ((rw [if_pos (by rfl)]; go_simp; refine (pop_any b0 g _ (nextM S) L _ (HM4.out.mv (Fr.refl _ _ _).drew) (by simp; omega) htk (by omega)).mono ?_; rintro e w5 ⟨rfl, L5, m5, v5⟩; obtain ⟨vo5, vs5, hb5⟩ := m5.blk; have q1 := hb5.cell 1; have q2 := hb5.cell 2; have z1 := hb5.frozen 1; have z2 := hb5.frozen 2; simp [mcA, popM] at q1 q2; have k1 := (BI4.out.drew.fr v5.fr hgi4 HGL.out).cell 1; simp at k1; dsimp only))
            all_goals
              replace v5 := ((Mv.refl L w4).fr_ (Fr.refl _ _ _).drew).trans v5
              have hgL5 := m5.own
              have b5 := BI4.out.fr v5.fr hgi4 HGL.out
              have hg5 := v5.old hgi4 HGL.out
              have m6 := m5.c0_ (topV (nextM S).s)
              have v6 := ((HV4.out.trans v5).set_ (p := ⟨g, 1, none⟩) hgL5 (.int .i64 (topV (nextM S).s).1)).set_ (p := ⟨g, 2, none⟩) hgL5 (.int .i64 (topV (nextM S).s).2)
              have b6 := (b5.far (p := ⟨g, 1, none⟩) (Ne.symm hgne) (.int .i64 (topV (nextM S).s).1)).far (p := ⟨g, 2, none⟩) (Ne.symm hgne) (.int .i64 (topV (nextM S).s).2)
              have hs6 := HSN.out (by decide) _ L5 _ (rfl) hg5 v6
              go_wp2_with fail
              go_step3
              exact ⟨_, HLT.out, rfl, rfl, rfl, rfl, Lib.hid (.inl ⟨rfl, _, L5, _, _, rfl, hs6, m6, b6⟩)⟩
          · go_upto_region 17 with fail
            go_region_law ((rw [if_pos (by rfl)]; go_simp; refine (pop_any b0 g _ (nextM S) L _ (HM4.out.mv (Fr.refl _ _ _).drew) (by simp; omega) htk (by omega)).mono ?_; rintro e w5 ⟨rfl, L5, m5, v5⟩; obtain ⟨vo5, vs5, hb5⟩ := m5.blk; have q1 := hb5.cell 3; have q2 := hb5.cell 4; have z1 := hb5.frozen 3; have z2 := hb5.frozen 4; simp [mcA, popM] at q1 q2; have k1 := (BI4.out.drew.fr v5.fr hgi4 HGL.out).cell 1; simp at k1; dsimp only))
            all_goals
              replace v5 := ((Mv.refl L w4).fr_ (Fr.refl _ _ _).drew).trans v5
              have hgL5 := m5.own
              have b5 := BI4.out.fr v5.fr hgi4 HGL.out
              have hg5 := v5.old hgi4 HGL.out
              have m6 := m5.c1_ (topV (nextM S).s)
              have v6 := ((HV4.out.trans v5).set_ (p := ⟨g, 3, none⟩) hgL5 (.int .i64 (topV (nextM S).s).1)).set_ (p := ⟨g, 4, none⟩) hgL5 (.int .i64 (topV (nextM S).s).2)
              have b6 := (b5.far (p := ⟨g, 3, none⟩) (Ne.symm hgne) (.int .i64 (topV (nextM S).s).1)).far (p := ⟨g, 4, none⟩) (Ne.symm hgne) (.int .i64 (topV (nextM S).s).2)
              have hs6 := HSN.out (by decide) _ L5 _ (rfl) hg5 v6
              go_wp2_with fail
              go_step3
              exact ⟨_, HLT.out, rfl, rfl, rfl, rfl, Lib.hid (.inl ⟨rfl, _, L5, _, _, rfl, hs6, m6, b6⟩)⟩
          
        · have htk : 2 ≤ (nextM S).s.length := by have h1 := HTK.out (by decide); have h2 : takesF 6 = 2 := rfl; simp only [h2] at h1; omega
          go_wp2_with fail
          refine (two_any b0 g _ (nextM S) L 6 w4 HM4.out (by omega) htk (by omega) (by decide)).mono ?_
          rintro e w5 ⟨rfl, L5, m5, v5⟩
          have b5 := BI4.out.fr v5.fr hgi4 HGL.out
          have hg5 := v5.old hgi4 HGL.out
          have hs5 := HSN.out (by decide) _ L5 w5 (rfl) hg5 (HV4.out.trans v5)
          go_wp2_with fail
          go_step3
          exact ⟨_, HLT.out, rfl, rfl, rfl, rfl, Lib.hid (.inl ⟨rfl, _, L5, _, _, rfl, hs5, m5, b5⟩)⟩
        · have htk : 2 ≤ (nextM S).s.length := by have h1 := HTK.out (by decide); have h2 : takesF 7 = 2 := rfl; simp only [h2] at h1; omega
          go_wp2_with fail
          refine (two_any b0 g _ (nextM S) L 7 w4 HM4.out (by omega) htk (by omega) (by decide)).mono ?_
          rintro e w5 ⟨rfl, L5, m5, v5⟩
          have b5 := BI4.out.fr v5.fr hgi4 HGL.out
          have hg5 := v5.old hgi4 HGL.out
          have hs5 := HSN.out (by decide) _ L5 w5 (rfl) hg5 (HV4.out.trans v5)
          go_wp2_with fail
          go_step3
          exact ⟨_, HLT.out, rfl, rfl, rfl, rfl, Lib.hid (.inl ⟨rfl, _, L5, _, _, rfl, hs5, m5, b5⟩)⟩
        · have htk : 2 ≤ (nextM S).s.length := by have h1 := HTK.out (by decide); have h2 : takesF 8 = 2 := rfl; simp only [h2] at h1; omega
          go_wp2_with fail
          refine (two_any b0 g _ (nextM S) L 8 w4 HM4.out (by omega) htk (by omega) (by decide)).mono ?_
          rintro e w5 ⟨rfl, L5, m5, v5⟩
          have b5 := BI4.out.fr v5.fr hgi4 HGL.out
          have hg5 := v5.old hgi4 HGL.out
          have hs5 := HSN.out (by decide) _ L5 w5 (rfl) hg5 (HV4.out.trans v5)
          go_wp2_with fail
          go_step3
          exact ⟨_, HLT.out, rfl, rfl, rfl, rfl, Lib.hid (.inl ⟨rfl, _, L5, _, _, rfl, hs5, m5, b5⟩)⟩
        · have htk : 1 ≤ (nextM S).s.length := by have h1 := HTK.out (by decide); have h2 : takesF 9 = 1 := rfl; simp only [h2] at h1; omega
          go_wp2_with fail
          refine (top_any b0 g _ (nextM S) L 9 w4 HM4.out (by omega) (by omega) (by intro _; omega) (by omega) (by omega) (by decide)).mono ?_
          rintro e w5 ⟨rfl, L5, m5, v5⟩
          have b5 := BI4.out.fr v5.fr hgi4 HGL.out
          have hg5 := v5.old hgi4 HGL.out
          have hs5 := HSN.out (by decide) _ L5 w5 (rfl) hg5 (HV4.out.trans v5)
          go_wp2_with fail
          go_step3
          exact ⟨_, HLT.out, rfl, rfl, rfl, rfl, Lib.hid (.inl ⟨rfl, _, L5, _, _, rfl, hs5, m5, b5⟩)⟩
        · have htk : 1 ≤ (nextM S).s.length := by have h1 := HTK.out (by decide); have h2 : takesF 10 = 1 := rfl; simp only [h2] at h1; omega
          go_wp2_with fail
          refine (top_any b0 g _ (nextM S) L 10 w4 HM4.out (by omega) (by omega) (by intro _; omega) (by omega) (by omega) (by decide)).mono ?_
          rintro e w5 ⟨rfl, L5, m5, v5⟩
          have b5 := BI4.out.fr v5.fr hgi4 HGL.out
          have hg5 := v5.old hgi4 HGL.out
          have hs5 := HSN.out (by decide) _ L5 w5 (rfl) hg5 (HV4.out.trans v5)
          go_wp2_with fail
          go_step3
          exact ⟨_, HLT.out, rfl, rfl, rfl, rfl, Lib.hid (.inl ⟨rfl, _, L5, _, _, rfl, hs5, m5, b5⟩)⟩
        · have htk : 1 ≤ (nextM S).s.length := by have h1 := HTK.out (by decide); have h2 : takesF 11 = 1 := rfl; simp only [h2] at h1; omega
          go_wp2_with fail
          refine (top_any b0 g _ (nextM S) L 11 w4 HM4.out (by omega) (by omega) (by intro _; omega) (by omega) (by omega) (by decide)).mono ?_
          rintro e w5 ⟨rfl, L5, m5, v5⟩
          have b5 := BI4.out.fr v5.fr hgi4 HGL.out
          have hg5 := v5.old hgi4 HGL.out
          have hs5 := HSN.out (by decide) _ L5 w5 (rfl) hg5 (HV4.out.trans v5)
          go_wp2_with fail
          go_step3
          exact ⟨_, HLT.out, rfl, rfl, rfl, rfl, Lib.hid (.inl ⟨rfl, _, L5, _, _, rfl, hs5, m5, b5⟩)⟩
        · have htk : 2 ≤ (nextM S).s.length := by have h1 := HTK.out (by decide); have h2 : takesF 12 = 2 := rfl; simp only [h2] at h1; omega
          go_wp2_with fail
          refine (top_any b0 g _ (nextM S) L 12 w4 HM4.out (by omega) (by omega) (by intro _; omega) (by omega) (by omega) (by decide)).mono ?_
          rintro e w5 ⟨rfl, L5, m5, v5⟩
          have b5 := BI4.out.fr v5.fr hgi4 HGL.out
          have hg5 := v5.old hgi4 HGL.out
          have hs5 := HSN.out (by decide) _ L5 w5 (rfl) hg5 (HV4.out.trans v5)
          go_wp2_with fail
          go_step3
          exact ⟨_, HLT.out, rfl, rfl, rfl, rfl, Lib.hid (.inl ⟨rfl, _, L5, _, _, rfl, hs5, m5, b5⟩)⟩
        · have htk : 1 ≤ (nextM S).s.length := by have h1 := HTK.out (by decide); have h2 : takesF 13 = 1 := rfl; simp only [h2] at h1; omega
          go_wp2_with fail
          refine (top_any b0 g _ (nextM S) L 13 w4 HM4.out (by omega) (by omega) (by intro _; omega) (by omega) (by omega) (by decide)).mono ?_
          rintro e w5 ⟨rfl, L5, m5, v5⟩
          have b5 := BI4.out.fr v5.fr hgi4 HGL.out
          have hg5 := v5.old hgi4 HGL.out
          have hs5 := HSN.out (by decide) _ L5 w5 (rfl) hg5 (HV4.out.trans v5)
          go_wp2_with fail
          go_step3
          exact ⟨_, HLT.out, rfl, rfl, rfl, rfl, Lib.hid (.inl ⟨rfl, _, L5, _, _, rfl, hs5, m5, b5⟩)⟩
        · have htk : 1 ≤ (nextM S).s.length := by have h1 := HTK.out (by decide); have h2 : takesF 14 = 1 := rfl; simp only [h2] at h1; omega
          go_wp2_with fail
          refine (top_any b0 g _ (nextM S) L 14 w4 HM4.out (by omega) (by omega) (by intro _; omega) (by omega) (by omega) (by decide)).mono ?_
          rintro e w5 ⟨rfl, L5, m5, v5⟩
          have b5 := BI4.out.fr v5.fr hgi4 HGL.out
          have hg5 := v5.old hgi4 HGL.out
          have hs5 := HSN.out (by decide) _ L5 w5 (rfl) hg5 (HV4.out.trans v5)
          go_wp2_with fail
          go_step3
          exact ⟨_, HLT.out, rfl, rfl, rfl, rfl, Lib.hid (.inl ⟨rfl, _, L5, _, _, rfl, hs5, m5, b5⟩)⟩
        · have hj := hr2 (.inl rfl)
          have htk : 0 < (nextM S).s.length := by have h1 := HTK.out (by decide); have h2 : takesF 15 = 1 := rfl; simp only [h2] at h1; omega
          go_wp2_with fail
          refine (pop_any b0 g _ (nextM S) L w4 HM4.out (by omega) htk (by omega)).mono ?_
          rintro e w5 ⟨rfl, L5, m5, v5⟩
          have HB5 := Lib.hid (BI4.out.fr v5.fr hgi4 HGL.out)
          have HG5 := Lib.hid (v5.old hgi4 HGL.out)
          have HM5 := Lib.hid m5
          have HV5 := Lib.hid (HV4.out.trans v5)
          obtain ⟨zv, hzv⟩ : ∃ z, z = zeroV (topV (nextM S).s) := ⟨_, rfl⟩
          have HZV := Lib.hid hzv
          have HZ := Lib.hid (fun w => (gzero_any (topV (nextM S).s) w : Calls Tryz.prog 184 _ w _))
          obtain ⟨tv, htv⟩ : ∃ t, t = topV (nextM S).s := ⟨_, rfl⟩
          rw [← htv] at HZ ⊢
          have HZ2 := Lib.hid (show decide (cen tv.1 = 0 ∧ cen tv.2 = 0) = zv by rw [hzv, htv]; rfl)
          clear m5 v5 hzv htv
          go_wp2_with fail
          refine (HZ.out w5).mono ?_
          rw [HZ2.out]
          rintro e w6 ⟨rfl, f6⟩
          have hB6 := HB5.out.fr f6 HB5.out.lt (by simp)
          have hM6 := HM5.out.mv f6
          have hV6 := HV5.out.fr_ f6
          cases zv with
          | true =>
            go_wp2_with fail
            go_step3
            exact ⟨_, HLJ.out, rfl, rfl, rfl, rfl, Lib.hid (.inr (.inl ⟨rfl, popM (nextM S), L5, 15, ia, rfl, h49', hj.1, hj.2, HSN.out (by decide) _ L5 w6 (by show jzM ia (nextM S) = _; unfold jzM; rw [if_pos HZV.out.symm]; rfl) HG5.out hV6, hM6, hB6⟩))⟩
          | false =>
            have hs5 := HSN.out (by decide) (popM (nextM S)) L5 w6 (by show jzM ia (nextM S) = _; unfold jzM; rw [if_neg (by rw [← HZV.out]; decide)]; rfl) HG5.out hV6
            go_wp2_with fail
            go_step3
            exact ⟨_, HLT.out, rfl, rfl, rfl, rfl, Lib.hid (.inl ⟨rfl, _, L5, _, _, rfl, hs5, hM6, hB6⟩)⟩
        · have hj := hr2 (.inr rfl)
          go_wp2_with fail
          go_step3
          exact ⟨_, HLJ.out, rfl, rfl, rfl, rfl, Lib.hid (.inr (.inl ⟨rfl, nextM S, L, 16, ia, rfl, h49', hj.1, hj.2, HSN.out (by decide) _ L w4 rfl HGL.out HV4.out, HM4.out, BI4.out⟩))⟩
        · have htk : 2 ≤ (nextM S).s.length := by have h1 := HTK.out (by decide); have h2 : takesF 17 = 2 := rfl; simp only [h2] at h1; omega
          go_wp2_with fail
          refine (two_any b0 g _ (nextM S) L 17 w4 HM4.out (by omega) htk (by omega) (by decide)).mono ?_
          rintro e w5 ⟨rfl, L5, m5, v5⟩
          have b5 := BI4.out.fr v5.fr hgi4 HGL.out
          have hg5 := v5.old hgi4 HGL.out
          have hs5 := HSN.out (by decide) _ L5 w5 (rfl) hg5 (HV4.out.trans v5)
          go_wp2_with fail
          go_step3
          exact ⟨_, HLT.out, rfl, rfl, rfl, rfl, Lib.hid (.inl ⟨rfl, _, L5, _, _, rfl, hs5, m5, b5⟩)⟩
    · refine ⟨_, .inl rfl, ?_⟩
      have HS := Lib.hid hs
      have HM := Lib.hid hm
      have BI := Lib.hid hbi
      have HN := Lib.hid hn
      obtain ⟨vo, vs, hbk⟩ := hm.blk
      have BK := Lib.hid hbk
      have hgL := hm.own
      clear HJ hs hm hbi hbk hn
      obtain ⟨at_, hat⟩ : ∃ t, t = S.at_ := ⟨_, rfl⟩
      have HAT := Lib.hid hat
      rw [← hat] at h49
      have c9 : w.cell? ⟨g, 9, none⟩ = some (.int .i64 (at_ : Int)) := by rw [hat]; exact BK.out.cell 9
      have z9 := BK.out.frozen 9
      have b1 := BI.out.cell 1
      simp at b1
      have hwr : wrap64 ((at_ : Int) + y) = (at_ : Int) + y := by unfold wrap64; omega
      clear hat BK
      go_wp2_with fail
      go_region
      have hyn : ((y.toNat : Nat) : Int) = y := by omega
      have HM2 := HM.out.at_ (at_ + y.toNat)
      have hv2 : (((at_ + y.toNat : Nat)) : Int) = (at_ : Int) + y := by omega
      rw [hv2] at HM2
      have HV2 := HS.out.mv.set_ (p := ⟨g, 9, none⟩) hgL (.int .i64 ((at_ : Int) + y))
      have BI2 := BI.out.far (p := ⟨g, 9, none⟩) (Ne.symm hgne) (.int .i64 ((at_ : Int) + y))
      have HS2 : RunS l D b0 g gi (.slice Ap l.length cp) F L0 w0 (jumpM y S) L (w.setCell ⟨g, 9, none⟩ (.int .i64 ((at_ : Int) + y))) := ⟨HS.out.inv, HS.out.new_, HV2, HS.out.res, HS.out.few, Nat.le_trans HS.out.base0 HV2.fr.size, HS.out.base0⟩
      have HM3 : MC b0 g (.slice Ap l.length cp) (jumpM y S) L (w.setCell ⟨g, 9, none⟩ (.int .i64 ((at_ : Int) + y))) := by rw [show (jumpM y S) = { S with at_ := at_ + y.toNat } by rw [HAT.out]; rfl]; exact HM2
      go_wp2_with fail
      go_step3
      refine ⟨_, ?_, rfl, rfl, rfl, rfl, Lib.hid (.inl ⟨rfl, jumpM y S, L, _, _, rfl, HS2.mvw (Fr.refl _ _ (w.setCell ⟨g, 9, none⟩ (.int .i64 ((at_ : Int) + y)))).drew, HM3.mv (Fr.refl _ _ (w.setCell ⟨g, 9, none⟩ (.int .i64 ((at_ : Int) + y)))).drew, BI2.drew⟩)⟩
      rw [HN.out]
      show 2 * (100 - (S.at_ + y.toNat)) < _
      rw [← HAT.out]
      omega
    · refine ⟨.skip, .inr ⟨rfl, by intro d h; cases h⟩, ?_⟩
      go_wp2_with fail
      simp only [jumpsX]
      go_end0
      exact ⟨rfl, L, hm, hv⟩
end Go.Proofs.YthfibggbipkmfaaGreat
namespace Go.Proofs.YthfibggbipkmfaaGreat
open Go.RowKit Go.Fb
set_option linter.unusedVariables false
set_option maxRecDepth 100000 in
set_option maxHeartbeats 1000000 in
theorem vxindex_any (F : FuncId) (cap : Array Value) (p : Int × Int → Bool) (A : Option Addr) (c B n : Nat) (l : List (Int × Int)) (w : World) (hent : ∀ (args : Array Value) (w : World), (callFunc F args).run Tryz.prog w = .ok (.enter F args) w)
    (hF : ∀ (x : Int × Int) (w' : World), x ∈ l → Fr w.heap.size [] w w' → Calls Tryz.prog F (#[.agg #[.int .i64 x.1, .int .i64 x.2]] ++ cap) w' fun e w'' => e = .returned (.bool (p x)) ∧ Fr w'.heap.size [] w' w'')
    (hn : n = l.length) (hm : n ≤ 1000000) (hr : Reads w B 2 A n (cellsV l)) (hB : B ≤ w.heap.size) :
    Calls Tryz.prog 181 #[.slice A n c, .func (.func F) #[] cap] w fun e w' => ∃ i : Int, e = .returned (.int .i64 i) ∧ decide (0 ≤ i) = l.any p ∧ Fr w.heap.size [] w w' := by
  have HF := Lib.hid hF
  have HR := Lib.hid hr
  have HN := Lib.hid hn
  clear hF hr hn
  go_enter Tryz.func181, Tryz.ntmps181
  go_wp2_with fail
  go_loopg [8] n (fun g s8 wr => ∃ k : Nat, k ≤ n ∧ g = n - k ∧ s8 = .int .i64 k ∧ RowKit.Hid (∀ j y, j < k → l[j]? = some y → p y = false) ∧ RowKit.Hid (Fr w.heap.size [] w wr))
  case atStart => exact ⟨0, Nat.zero_le _, rfl, rfl, Lib.hid (fun j y h => absurd h (by omega)), Lib.hid (Fr.refl _ _ _)⟩
  case round =>
    obtain ⟨k, hk, rfl, rfl, HP, FR⟩ := hrel
    by_cases hkn : k < n
    · have hki : (k : Int) < (n : Int) := by omega
      have hk0 : (0 : Int) ≤ (k : Int) := by omega
      obtain ⟨x, hx⟩ : ∃ x, l[k]? = some x := ⟨_, List.getElem?_eq_getElem (by rw [← HN.out]; exact hkn)⟩
      obtain ⟨b, off, rfl, hb, p0, p1⟩ := reads_val (by rw [← HN.out]; exact HR.out.fr FR.out hB (by simp)) hx
      have HC := HF.out x wr (List.mem_of_getElem? hx) FR.out
      have HX := Lib.hid hx
      clear hx
      obtain ⟨bb, hbb⟩ : ∃ b, b = p x := ⟨_, rfl⟩
      rw [← hbb] at HC
      have HC := Lib.hid HC
      have HPX := Lib.hid hbb
      clear hbb
      cases bb with
      | true =>
        go_wp2_with fail
        refine HC.out.mono ?_
        rintro e w2 ⟨rfl, f2⟩
        have F2 := Lib.hid (FR.out.trans (f2.mono (B' := w.heap.size) (L' := []) FR.out.size (by simp)))
        clear f2 HC
        go_wp2_with fail
        go_ret
        refine ⟨k, rfl, ?_, F2.out⟩
        rw [List.any_eq_true.2 ⟨x, List.mem_of_getElem? HX.out, HPX.out.symm⟩]
        simp
      | false =>
        go_wp2_with fail
        refine HC.out.mono ?_
        rintro e w2 ⟨rfl, f2⟩
        have F2 := Lib.hid (FR.out.trans (f2.mono (B' := w.heap.size) (L' := []) FR.out.size (by simp)))
        clear f2 HC
        go_wp2_with fail
        go_roundg (n - (k + 1))
        case measure => omega
        case rel =>
          refine ⟨k + 1, by omega, rfl, by go_num, Lib.hid fun j y hj hy => ?_, F2⟩
          rcases Nat.lt_or_ge j k with h | h
          · exact HP.out j y h hy
          · have : j = k := by omega
            subst this
            rw [HX.out] at hy
            injection hy with hy
            rw [← hy]
            exact HPX.out.symm
    · obtain rfl : k = n := by omega
      go_wp2_with fail
      go_ret
      refine ⟨-1, rfl, ?_, FR.out⟩
      symm
      rw [show decide ((0 : Int) ≤ -1) = false by simp, List.any_eq_false]
      intro x hx
      obtain ⟨j, hj, rfl⟩ := List.mem_iff_getElem.1 hx
      rw [HP.out j _ (by rw [HN.out]; exact hj) (List.getElem?_eq_getElem hj)]
      simp
set_option maxRecDepth 100000 in
theorem vxcontains_any (F : FuncId) (cap : Array Value) (p : Int × Int → Bool) (A : Option Addr) (c B n : Nat) (l : List (Int × Int)) (w : World) (hent : ∀ (args : Array Value) (w : World), (callFunc F args).run Tryz.prog w = .ok (.enter F args) w)
    (hF : ∀ (x : Int × Int) (w' : World), x ∈ l → Fr w.heap.size [] w w' → Calls Tryz.prog F (#[.agg #[.int .i64 x.1, .int .i64 x.2]] ++ cap) w' fun e w'' => e = .returned (.bool (p x)) ∧ Fr w'.heap.size [] w' w'')
    (hn : n = l.length) (hm : n ≤ 1000000) (hr : Reads w B 2 A n (cellsV l)) (hB : B ≤ w.heap.size) :
    Calls Tryz.prog 174 #[.slice A n c, .func (.func F) #[] cap] w fun e w' => e = .returned (.bool (l.any p)) ∧ Fr w.heap.size [] w w' := by
  have H := Lib.hid (vxindex_any F cap p A c B n l w hent hF hn hm hr hB)
  obtain ⟨b, hb⟩ : ∃ b, b = l.any p := ⟨_, rfl⟩
  rw [← hb] at H ⊢
  clear hF hn hr hb
  go_enter Tryz.func174, Tryz.ntmps174
  go_wp2_with fail
  refine H.out.mono ?_
  rintro e w1 ⟨i, rfl, hi, f1⟩
  have F1 := Lib.hid f1
  have HI := Lib.hid hi
  clear hi f1 H
  go_wp2_with fail
  go_ret
  exact ⟨by rw [← HI.out]; rfl, F1.out⟩
def vOkB (v : Int × Int) : Bool := valB v.1 v.2
set_option maxRecDepth 100000 in
theorem vwrong_any (x : Int × Int) (w : World) : Calls Tryz.prog 175 #[.agg #[.int .i64 x.1, .int .i64 x.2]] w fun e w' => e = .returned (.bool (!vOkB x)) ∧ Fr w.heap.size [] w w' := by
  have HC := Lib.hid (gright_any x.1 x.2)
  have fa := (Fr.refl w.heap.size [] w).alloc (Nat.le_refl _) (.cells #[.int .i64 x.1, .int .i64 x.2] 42)
  have BX := Lib.hid (Blk.new w 42 #[.int .i64 x.1, .int .i64 x.2])
  have FA := Lib.hid fa
  have HV := Lib.hid (show valB x.1 x.2 = vOkB x from rfl)
  generalize vOkB x = v at *
  clear fa
  go_enter Tryz.func175, Tryz.ntmps175
  go_upto_region 1 with fail
  generalize w.alloc _ = w1 at *
  obtain ⟨gx, hgx⟩ : ∃ g, g = w.heap.size := ⟨_, rfl⟩
  rw [← hgx] at BX ⊢
  have HGX := Lib.hid hgx
  clear hgx
  have q0 := BX.out.cell 0
  have q1 := BX.out.cell 1
  simp at q0 q1
  rw [HV.out] at HC
  go_wp2_with fail
  refine (HC.out _).mono ?_
  rintro e w2 ⟨rfl, f2⟩
  have F2 := Lib.hid (FA.out.trans (f2.mono (B' := w.heap.size) (L' := []) FA.out.size (by simp)))
  clear f2
  go_wp2_with fail
  go_ret
  exact ⟨rfl, F2.out⟩
/-- The machine at its start. -/
def mach0 (x : Int × Int) (c : (Int × Int) × (Int × Int)) : MS := ⟨[], c, 0, x, 0, []⟩
theorem mach0_inv {l : List (Int × Int)} {D : Nat → Int} (P : SafeD l D) {x : Int × Int} {c : (Int × Int) × (Int × Int)} (hx : vOk x) (hc : vOk c.1 ∧ vOk c.2) : MInv l D (mach0 x c) :=
  ⟨fun h => P.zero (List.length_pos_iff.1 h), Nat.zero_le _, Nat.zero_le _, hx, hc, by simp [mach0], by simp [mach0]⟩
theorem runF_ok {l : List (Int × Int)} {D : Nat → Int} (P : SafeD l D) : ∀ (f : Nat) (S : MS), MInv l D S → (vOk (runF l f S).c.1 ∧ vOk (runF l f S).c.2) ∧ ∀ v ∈ (runF l f S).o, vOk v
  | 0, S, I => ⟨I.c, I.o⟩
  | f + 1, S, I => by
    unfold runF
    cases h : l[S.at_]? with
    | none => exact ⟨I.c, I.o⟩
    | some i =>
      simp only
      split
      · exact ⟨I.c, I.o⟩
      · rename_i h0
        exact runF_ok P f _ (I.act P h h0).1
/-- What a program does for a value and two cells: what it puts out, its cells. -/
def outP_ (l : List (Int × Int)) (x : Int × Int) (c : (Int × Int) × (Int × Int)) : List (Int × Int) := (runE l (mach0 x c)).o
def celP (l : List (Int × Int)) (x : Int × Int) (c : (Int × Int) × (Int × Int)) : (Int × Int) × (Int × Int) := (runE l (mach0 x c)).c
theorem prog_ok {l : List (Int × Int)} {D : Nat → Int} (P : SafeD l D) {x : Int × Int} {c : (Int × Int) × (Int × Int)} (hx : vOk x) (hc : vOk c.1 ∧ vOk c.2) : (vOk (celP l x c).1 ∧ vOk (celP l x c).2) ∧ ∀ v ∈ outP_ l x c, vOk v := runF_ok P 100 _ (mach0_inv P hx hc)
abbrev c4 (c : (Int × Int) × (Int × Int)) : Value := .agg #[.int .i64 c.1.1, .int .i64 c.1.2, .int .i64 c.2.1, .int .i64 c.2.2]
def RunOut (l : List (Int × Int)) (x : Int × Int) (c : (Int × Int) × (Int × Int)) (w : World) (e : Ending) (w' : World) : Prop :=
  ∃ A n cc st, n = (outP_ l x c).length ∧ e = .returned (.tuple #[.agg #[.slice A n cc, .int .i64 (celP l x c).1.1, .int .i64 (celP l x c).1.2, .int .i64 (celP l x c).2.1, .int .i64 (celP l x c).2.2, .int .i64 st], .int .i64 0]) ∧ w'.ownsRow w.heap.size 42 2 (.slice A n cc) n (cellsV (outP_ l x c)) ∧ Fr w.heap.size [] w w'
set_option maxRecDepth 100000 in
set_option maxHeartbeats 8000000 in
theorem each_any (Ap : Option Addr) (cp B : Nat) (l : List (Int × Int)) (s : CS) (x : Int × Int) (c : (Int × Int) × (Int × Int)) (gv tv cv : Nat) (w : World) (hsf : chkL l = some s) (hrd : Reads w B 2 Ap l.length (cellsI l)) (hB : B ≤ w.heap.size) (hx : vOk x) (hc : vOk c.1 ∧ vOk c.2) (hv : Blk w gv tv #[.int .i64 x.1, .int .i64 x.2]) :
    Calls Tryz.prog 165 #[.slice Ap l.length cp, c4 c, .slice (some ⟨gv, 0, none⟩) 1 cv] w (RunOut l x c w) := by
  have hP := safe_of hsf
  have h24 := hP.fit.1
  have HSF := Lib.hid (fun (wx : World) (hf : Fr w.heap.size [] w wx) => (safe_yes (hrd.fr hf hB (by simp)) (Nat.le_trans hB hf.size) (by unfold maxLen; omega) hsf : Calls Tryz.prog 97 #[.slice Ap l.length cp] wx _))
  have HP := Lib.hid hP
  have HIN := Lib.hid (mach0_inv hP hx hc)
  have hR0 : RunOut l x c = RunOut l x c := rfl
  obtain ⟨F, hF⟩ : ∃ F, F = runE l (mach0 x c) := ⟨_, rfl⟩
  have HF := Lib.hid hF
  have HV1 := Lib.hid (show [c.1, c.2].any (fun v => !vOkB v) = false by simp [vOkB]; exact ⟨hc.1, hc.2⟩)
  have HV2 := Lib.hid (show [x].any (fun v => !vOkB v) = false by simp [vOkB]; exact hx)
  have HRD := Lib.hid hrd
  have HBV := Lib.hid hv
  have hgv := hv.lt
  obtain ⟨nl, hnl⟩ : ∃ nl, nl = l.length := ⟨_, rfl⟩
  have HNL := Lib.hid hnl
  rw [← hnl] at HSF h24 ⊢
  have fa := ((Fr.refl w.heap.size [] w).alloc (Nat.le_refl _) (.cells #[.int .i64 c.1.1, .int .i64 c.1.2, .int .i64 c.2.1, .int .i64 c.2.2] 76)).alloc (by simp) (.cells #[.slice none 0 0, .int .i64 0, .int .i64 0, .int .i64 0, .int .i64 0, .int .i64 0] 213)
  have BC := Lib.hid ((Blk.new w 76 #[.int .i64 c.1.1, .int .i64 c.1.2, .int .i64 c.2.1, .int .i64 c.2.2]).alloc (.cells #[.slice none 0 0, .int .i64 0, .int .i64 0, .int .i64 0, .int .i64 0, .int .i64 0] 213))
  have BR := Blk.new (w.alloc (.cells #[.int .i64 c.1.1, .int .i64 c.1.2, .int .i64 c.2.1, .int .i64 c.2.2] 76)) 213 #[.slice none 0 0, .int .i64 0, .int .i64 0, .int .i64 0, .int .i64 0, .int .i64 0]
  rw [World.size_alloc] at BR
  have BR := Lib.hid BR
  have FA := Lib.hid fa
  clear fa hrd hsf hP hF hv hx hc hR0 hnl
  go_enter Tryz.func165, Tryz.ntmps165
  go_upto_region 1 with fail
  obtain ⟨gb, hgb⟩ : ∃ g, g = w.heap.size := ⟨_, rfl⟩
  obtain ⟨gr, hgr⟩ : ∃ g, g = w.heap.size + 1 := ⟨_, rfl⟩
  rw [← hgr] at BR ⊢
  rw [← hgb] at BC FA hB hgv ⊢
  have HGB := Lib.hid hgb
  have hgbr : gb < gr := by omega
  clear hgb hgr
  generalize (w.alloc (.cells #[.int .i64 c.1.1, .int .i64 c.1.2, .int .i64 c.2.1, .int .i64 c.2.2] 76)).alloc (.cells #[.slice none 0 0, .int .i64 0, .int .i64 0, .int .i64 0, .int .i64 0, .int .i64 0] 213) = w1 at *
  have HS1 := Lib.hid (HSF.out w1 (by rw [← HGB.out]; exact FA.out))
  clear HSF
  go_wp2_with fail
  refine HS1.out.mono ?_
  rintro e w2 ⟨rfl, f2⟩
  have BC2 := Lib.hid (BC.out.fr f2 BC.out.lt (by simp))
  have BR2 := Lib.hid (BR.out.fr f2 BR.out.lt (by simp))
  have FA2 := Lib.hid (FA.out.trans (f2.mono (B' := gb) (L' := []) (by rw [HGB.out]; exact FA.out.size) (by simp)))
  clear f2 BC BR FA HS1
  have HC1 := Lib.hid (vxcontains_any 175 #[] (fun v => !vOkB v) (some ⟨gb, 0, none⟩) 2 (gb + 1) 2 [c.1, c.2] w2 (enters_of Tryz.func175 (by kernel_rfl) rfl) (fun x w' _ _ => vwrong_any x w') rfl (by omega) (Reads.of_blk BC2.out (by rfl)) BC2.out.lt)
  rw [HV1.out] at HC1
  go_upto_region 3 with fail
  go_wp2_with fail
  refine HC1.out.mono ?_
  rintro e w3 ⟨rfl, f3⟩
  have BC3 := Lib.hid (BC2.out.fr f3 BC2.out.lt (by simp))
  have BR3 := Lib.hid (BR2.out.fr f3 BR2.out.lt (by simp))
  have FA3 := Lib.hid (FA2.out.trans (f3.mono (B' := gb) (L' := []) (by rw [HGB.out]; exact FA2.out.size) (by simp)))
  have HBV3 := Lib.hid (HBV.out.fr FA3.out (by omega) (by simp))
  have HC2 := Lib.hid (vxcontains_any 175 #[] (fun v => !vOkB v) (some ⟨gv, 0, none⟩) cv (gv + 1) 1 [x] w3 (enters_of Tryz.func175 (by kernel_rfl) rfl) (fun x w' _ _ => vwrong_any x w') rfl (by omega) (Reads.of_blk HBV3.out (by rfl)) HBV3.out.lt)
  rw [HV2.out] at HC2
  clear f3 BC2 BR2 FA2 HC1
  go_wp2_with fail
  refine HC2.out.mono ?_
  rintro e w4 ⟨rfl, f4⟩
  have BC4 := Lib.hid (BC3.out.fr f4 BC3.out.lt (by simp))
  have BR4 := Lib.hid (BR3.out.fr f4 BR3.out.lt (by simp))
  have FA4 := Lib.hid (FA3.out.trans (f4.mono (B' := gb) (L' := []) (by rw [HGB.out]; exact FA3.out.size) (by simp)))
  have HBV4 := Lib.hid (HBV.out.fr FA4.out (by omega) (by simp))
  clear f4 BC3 BR3 FA3 HC2 HBV3 HBV
  have c0 := BC4.out.cell 0
  have c1 := BC4.out.cell 1
  have c2 := BC4.out.cell 2
  have c3 := BC4.out.cell 3
  simp at c0 c1 c2 c3
  go_upto_region 6 with fail
  have fo := (Fr.refl w4.heap.size [] w4).alloc (Nat.le_refl _) (.cells #[.slice none 0 0, .int .i64 c.1.1, .int .i64 c.1.2, .int .i64 c.2.1, .int .i64 c.2.2, .int .i64 0] 213)
  have BO := Lib.hid (Blk.new w4 213 #[.slice none 0 0, .int .i64 c.1.1, .int .i64 c.1.2, .int .i64 c.2.1, .int .i64 c.2.2, .int .i64 0])
  have BR5 := Lib.hid (BR4.out.fr fo BR4.out.lt (by simp))
  have FA5 := Lib.hid (FA4.out.trans (fo.mono (B' := gb) (L' := []) (by rw [HGB.out]; exact FA4.out.size) (by simp)))
  have HBV5 := Lib.hid (HBV4.out.fr fo HBV4.out.lt (by simp))
  obtain ⟨go, hgo⟩ : ∃ g, g = w4.heap.size := ⟨_, rfl⟩
  have hgo1 : gr < go := by have := BR4.out.lt; omega
  rw [← hgo] at BO ⊢
  clear fo BC4 BR4 FA4 HBV4 c0 c1 c2 c3 hgo
  generalize w4.alloc (.cells #[.slice none 0 0, .int .i64 c.1.1, .int .i64 c.1.2, .int .i64 c.2.1, .int .i64 c.2.2, .int .i64 0] 213) = w5 at *
  go_wp2_with fail
  go_loopg [10, 11, 29] 1 (fun g s10 s11 s29 wr => (g = 1 ∧ s29 = .int .i64 0 ∧ s10 = undef ∧ s11 = undef ∧ wr = w5) ∨ (g = 0 ∧ s29 = .int .i64 1 ∧ (∃ a, s10 = .pointer a) ∧ (∃ a, s11 = .pointer a) ∧ RowKit.Hid (∃ A n cc st, n = F.o.length ∧ Blk wr go 213 #[.slice A n cc, .int .i64 F.c.1.1, .int .i64 F.c.1.2, .int .i64 F.c.2.1, .int .i64 F.c.2.2, .int .i64 st] ∧ Blk wr gr 213 #[.slice none 0 0, .int .i64 0, .int .i64 0, .int .i64 0, .int .i64 0, .int .i64 0] ∧ wr.ownsRow gb 42 2 (.slice A n cc) n (cellsV F.o) ∧ Fr gb [] w wr)))
  case atStart => exact .inl ⟨rfl, rfl, rfl, rfl, rfl⟩
  case round =>
    rcases hrel with ⟨rfl, rfl, rfl, rfl, rfl⟩ | ⟨rfl, rfl, ⟨a10, rfl⟩, ⟨a11, rfl⟩, HE⟩
    · have v0 := HBV5.out.cell 0
      have v1 := HBV5.out.cell 1
      simp at v0 v1
      go_upto_region 9 with fail
      have fx := (Fr.refl wr.heap.size [] wr).alloc (Nat.le_refl _) (.cells #[.int .i64 x.1, .int .i64 x.2] 42)
      have BX := Lib.hid (Blk.new wr 42 #[.int .i64 x.1, .int .i64 x.2])
      have BO6 := Lib.hid (BO.out.fr fx BO.out.lt (by simp))
      have BR6 := Lib.hid (BR5.out.fr fx BR5.out.lt (by simp))
      have FA6 := Lib.hid (FA5.out.trans (fx.mono (B' := gb) (L' := []) (by rw [HGB.out]; exact FA5.out.size) (by simp)))
      obtain ⟨gx, hgx⟩ : ∃ g, g = wr.heap.size := ⟨_, rfl⟩
      rw [← hgx] at BX ⊢
      clear fx hgx v0 v1 HBV5
      generalize wr.alloc (.cells #[.int .i64 x.1, .int .i64 x.2] 42) = w6 at *
      clear BO BR5 FA5
      have o0 := BO6.out.cell 0
      have o1 := BO6.out.cell 1
      have o2 := BO6.out.cell 2
      have o3 := BO6.out.cell 3
      have o4 := BO6.out.cell 4
      have o5 := BO6.out.cell 5
      have x0 := BX.out.cell 0
      have x1 := BX.out.cell 1
      simp at o0 o1 o2 o3 o4 o5 x0 x1
      go_upto_region 10 with fail
      have fm := (Fr.refl w6.heap.size [] w6).alloc (Nat.le_refl _) (.cells (mcA (.slice none 0 0) (mach0 x c) (.slice Ap nl cp) (.slice none 0 0)) 247)
      have BM := Blk.new w6 247 (mcA (.slice none 0 0) (mach0 x c) (.slice Ap nl cp) (.slice none 0 0))
      have BO7 := Lib.hid (BO6.out.fr fm BO6.out.lt (by simp))
      have BR7 := Lib.hid (BR6.out.fr fm BR6.out.lt (by simp))
      have FA7 := Lib.hid (FA6.out.trans (fm.mono (B' := gb) (L' := []) (by rw [HGB.out]; exact FA6.out.size) (by simp)))
      obtain ⟨gm, hgm⟩ : ∃ g, g = w6.heap.size := ⟨_, rfl⟩
      rw [← hgm] at BM ⊢
      have hgom : go < gm := by have := BO6.out.lt; omega
      clear fm o0 o1 o2 o3 o4 o5 x0 x1 BX hgm
      have hmc : w6.alloc (.cells #[.slice none 0 0, .int .i64 c.1.1, .int .i64 c.1.2, .int .i64 c.2.1, .int .i64 c.2.2, .int .i64 0, .slice Ap nl cp, .int .i64 x.1, .int .i64 x.2, .int .i64 0, .slice none 0 0] 247) = w6.alloc (.cells (mcA (.slice none 0 0) (mach0 x c) (.slice Ap nl cp) (.slice none 0 0)) 247) := rfl
      rw [hmc]
      clear hmc
      generalize w6.alloc (.cells (mcA (.slice none 0 0) (mach0 x c) (.slice Ap nl cp) (.slice none 0 0)) 247) = w7 at *
      clear BO6 BR6 FA6
      have HMC := (⟨none, 0, 0, none, 0, 0, rfl, rfl, BM, World.ownsRow_nil _ _ _ _, World.ownsRow_nil _ _ _ _, by simp [Value.ownBlock], by simp [Value.ownBlock]⟩ : MC gb gm (.slice Ap nl cp) (mach0 x c) [gm] w7)
      have HRUN := run_any gb gm Ap cp B l s.D (mach0 x c) [gm] w7 HP.out HIN.out (Nat.zero_le _) (by rw [← HNL.out]; exact HMC) (by have := BM.lt; omega) (HRD.out.fr FA7.out (by omega) (by simp)) (by have := BM.lt; omega) (by simp; omega)
      rw [← HNL.out, ← HF.out] at HRUN
      replace HRUN := Lib.hid HRUN
      have HGM := Lib.hid BM.lt
      clear BM HMC
      go_wp2_with fail
      refine HRUN.out.mono ?_
      rintro e w8 ⟨rfl, L8, m8, v8⟩
      obtain ⟨Ao, no, co, As, ns, cs, h1, h2, hb8, ho8, _, _, _⟩ := m8
      have BM8 := Lib.hid hb8
      have HO8 := Lib.hid ho8
      have HNO := Lib.hid h1
      have BO8 := Lib.hid (BO7.out.fr v8.fr BO7.out.lt (by simp; omega))
      have BR8 := Lib.hid (BR7.out.fr v8.fr BR7.out.lt (by simp; omega))
      have FA8 := Lib.hid (FA7.out.trans (v8.fr.mono (B' := gb) (L' := []) (by rw [HGB.out]; exact FA7.out.size) (by simp; omega)))
      clear h1 h2 hb8 ho8 v8 HRUN BO7 BR7 FA7
      have m0 := BM8.out.cell 0
      have m1 := BM8.out.cell 1
      have m2 := BM8.out.cell 2
      have m3 := BM8.out.cell 3
      have m4 := BM8.out.cell 4
      have m5 := BM8.out.cell 5
      have o0 := BO8.out.cell 0
      have o1 := BO8.out.cell 1
      have o2 := BO8.out.cell 2
      have o3 := BO8.out.cell 3
      have o4 := BO8.out.cell 4
      have o5 := BO8.out.cell 5
      have z0 := BO8.out.frozen 0
      have z1 := BO8.out.frozen 1
      have z2 := BO8.out.frozen 2
      have z3 := BO8.out.frozen 3
      have z4 := BO8.out.frozen 4
      have z5 := BO8.out.frozen 5
      simp [mcA] at m0 m1 m2 m3 m4 m5 o0 o1 o2 o3 o4 o5
      go_wp2_with fail
      have fs := (((((((Fr.refl w8.heap.size [go] w8).setCell (p := ⟨go, 0, none⟩) (.inr (by simp)) (.slice Ao no co)).setCell (p := ⟨go, 1, none⟩) (.inr (by simp)) (.int .i64 F.c.1.1)).setCell (p := ⟨go, 2, none⟩) (.inr (by simp)) (.int .i64 F.c.1.2)).setCell (p := ⟨go, 3, none⟩) (.inr (by simp)) (.int .i64 F.c.2.1)).setCell (p := ⟨go, 4, none⟩) (.inr (by simp)) (.int .i64 F.c.2.2)).setCell (p := ⟨go, 5, none⟩) (.inr (by simp)) (.int .i64 F.st))
      have bs := ((((((BO8.out.set_ 0 (.slice Ao no co)).set_ 1 (.int .i64 F.c.1.1)).set_ 2 (.int .i64 F.c.1.2)).set_ 3 (.int .i64 F.c.2.1)).set_ 4 (.int .i64 F.c.2.2)).set_ 5 (.int .i64 F.st))
      simp only [List.setIfInBounds_toArray, List.set_cons_zero, List.set_cons_succ] at bs
      have hne := BO8.out.ne_own HO8.out (by decide)
      have os := ownsRow_fr HO8.out fs (fun q hq => ⟨(HO8.out.lt q hq).2, by simp; rintro rfl; exact hne hq.symm⟩)
      have br := BR8.out.fr fs BR8.out.lt (by simp; omega)
      have ff := FA8.out.trans (fs.mono (B' := gb) (L' := []) (by rw [HGB.out]; exact FA8.out.size) (by simp; omega))
      clear m0 m1 m2 m3 m4 m5 o0 o1 o2 o3 o4 o5 z0 z1 z2 z3 z4 z5
      generalize ((((((w8.setCell ⟨go, 0, none⟩ (.slice Ao no co)).setCell ⟨go, 1, none⟩ (.int .i64 F.c.1.1)).setCell ⟨go, 2, none⟩ (.int .i64 F.c.1.2)).setCell ⟨go, 3, none⟩ (.int .i64 F.c.2.1)).setCell ⟨go, 4, none⟩ (.int .i64 F.c.2.2)).setCell ⟨go, 5, none⟩ (.int .i64 F.st)) = w9 at *
      go_roundg 0
      case measure => omega
      case rel => exact .inr ⟨rfl, rfl, ⟨_, rfl⟩, ⟨_, rfl⟩, Lib.hid ⟨Ao, no, co, F.st, HNO.out, bs, br, os, ff⟩⟩
    · obtain ⟨A, n, cc, st, hn, hbo, hbr, how, hfr⟩ := HE.out
      have BO := Lib.hid hbo
      have BR := Lib.hid hbr
      have HOW := Lib.hid how
      have FF := Lib.hid hfr
      have HN := Lib.hid hn
      clear HE hn hbo hbr how hfr
      have o0 := BO.out.cell 0
      have o1 := BO.out.cell 1
      have o2 := BO.out.cell 2
      have o3 := BO.out.cell 3
      have o4 := BO.out.cell 4
      have o5 := BO.out.cell 5
      have r0 := BR.out.cell 0
      have r1 := BR.out.cell 1
      have r2 := BR.out.cell 2
      have r3 := BR.out.cell 3
      have r4 := BR.out.cell 4
      have r5 := BR.out.cell 5
      have z0 := BR.out.frozen 0
      have z1 := BR.out.frozen 1
      have z2 := BR.out.frozen 2
      have z3 := BR.out.frozen 3
      have z4 := BR.out.frozen 4
      have z5 := BR.out.frozen 5
      simp at o0 o1 o2 o3 o4 o5 r0 r1 r2 r3 r4 r5
      go_wp2_with fail
      have fs := (((((((Fr.refl wr.heap.size [gr] wr).setCell (p := ⟨gr, 0, none⟩) (.inr (by simp)) (.slice A n cc)).setCell (p := ⟨gr, 1, none⟩) (.inr (by simp)) (.int .i64 F.c.1.1)).setCell (p := ⟨gr, 2, none⟩) (.inr (by simp)) (.int .i64 F.c.1.2)).setCell (p := ⟨gr, 3, none⟩) (.inr (by simp)) (.int .i64 F.c.2.1)).setCell (p := ⟨gr, 4, none⟩) (.inr (by simp)) (.int .i64 F.c.2.2)).setCell (p := ⟨gr, 5, none⟩) (.inr (by simp)) (.int .i64 st))
      have bs := ((((((BR.out.set_ 0 (.slice A n cc)).set_ 1 (.int .i64 F.c.1.1)).set_ 2 (.int .i64 F.c.1.2)).set_ 3 (.int .i64 F.c.2.1)).set_ 4 (.int .i64 F.c.2.2)).set_ 5 (.int .i64 st))
      simp only [List.setIfInBounds_toArray, List.set_cons_zero, List.set_cons_succ] at bs
      have hne := BR.out.ne_own HOW.out (by decide)
      have os := ownsRow_fr HOW.out fs (fun q hq => ⟨(HOW.out.lt q hq).2, by simp; rintro rfl; exact hne hq.symm⟩)
      have ff := FF.out.trans (fs.mono (B' := gb) (L' := []) (by rw [HGB.out]; exact FF.out.size) (by simp; omega))
      refine bodyPost_ret (results_cell_row_tmp rfl _ _ gr 213 #[.slice A n cc, .int .i64 F.c.1.1, .int .i64 F.c.1.2, .int .i64 F.c.2.1, .int .i64 F.c.2.2, .int .i64 st] (0, 0) _ rfl bs Tryz.underlying213 rfl (by kernel_rfl)) rfl ?_
      have e1 : outP_ l x c = F.o := by unfold outP_; rw [HF.out]
      have e2 : celP l x c = F.c := by unfold celP; rw [HF.out]
      unfold RunOut
      rw [e1, e2]
      exact ⟨A, n, cc, st, HN.out, rfl, by rw [← HGB.out]; exact os, by rw [← HGB.out]; exact ff⟩
set_option maxRecDepth 100000 in
set_option maxHeartbeats 4000000 in
theorem vrun_any (Ap : Option Addr) (cp B : Nat) (l : List (Int × Int)) (s : CS) (x : Int × Int) (c : (Int × Int) × (Int × Int)) (w : World) (hsf : chkL l = some s) (hrd : Reads w B 2 Ap l.length (cellsI l)) (hB : B ≤ w.heap.size) (hx : vOk x) (hc : vOk c.1 ∧ vOk c.2) :
    Calls Tryz.prog 143 #[.slice Ap l.length cp, .agg #[.int .i64 x.1, .int .i64 x.2], c4 c] w (RunOut l x c w) := by
  have HE := Lib.hid (fun (gv : Nat) (wx : World) (hf : Fr w.heap.size [] w wx) (hv : Blk wx gv 42 #[.int .i64 x.1, .int .i64 x.2]) => (by exact each_any Ap cp B l s x c gv 42 1 wx hsf (hrd.fr hf hB (by simp)) (Nat.le_trans hB hf.size) hx hc hv : Calls Tryz.prog 165 #[.slice Ap l.length cp, c4 c, .slice (some ⟨gv, 0, none⟩) 1 1] wx (RunOut l x c wx)))
  have fa := (((Fr.refl w.heap.size [] w).alloc (Nat.le_refl _) (.cells #[.int .i64 x.1, .int .i64 x.2] 42)).alloc (by simp) (.cells #[.int .i64 c.1.1, .int .i64 c.1.2, .int .i64 c.2.1, .int .i64 c.2.2] 76)).alloc (by simp; omega) (.cells #[.slice none 0 0, .int .i64 0, .int .i64 0, .int .i64 0, .int .i64 0, .int .i64 0] 213)
  have BX := ((Blk.new w 42 #[.int .i64 x.1, .int .i64 x.2]).alloc (.cells #[.int .i64 c.1.1, .int .i64 c.1.2, .int .i64 c.2.1, .int .i64 c.2.2] 76)).alloc (.cells #[.slice none 0 0, .int .i64 0, .int .i64 0, .int .i64 0, .int .i64 0, .int .i64 0] 213)
  have BC := (Blk.new (w.alloc (.cells #[.int .i64 x.1, .int .i64 x.2] 42)) 76 #[.int .i64 c.1.1, .int .i64 c.1.2, .int .i64 c.2.1, .int .i64 c.2.2]).alloc (.cells #[.slice none 0 0, .int .i64 0, .int .i64 0, .int .i64 0, .int .i64 0, .int .i64 0] 213)
  have BR := Blk.new ((w.alloc (.cells #[.int .i64 x.1, .int .i64 x.2] 42)).alloc (.cells #[.int .i64 c.1.1, .int .i64 c.1.2, .int .i64 c.2.1, .int .i64 c.2.2] 76)) 213 #[.slice none 0 0, .int .i64 0, .int .i64 0, .int .i64 0, .int .i64 0, .int .i64 0]
  rw [World.size_alloc] at BC BR
  rw [World.size_alloc] at BR
  have BX := Lib.hid BX
  have BC := Lib.hid BC
  have BR := Lib.hid BR
  have FA := Lib.hid fa
  obtain ⟨nl, hnl⟩ : ∃ nl, nl = l.length := ⟨_, rfl⟩
  rw [← hnl] at HE ⊢
  clear fa hrd hsf hx hc hnl hB
  go_enter Tryz.func143, Tryz.ntmps143
  go_upto_region 1 with fail
  obtain ⟨gx, hgx⟩ : ∃ g, g = w.heap.size := ⟨_, rfl⟩
  obtain ⟨gc, hgc⟩ : ∃ g, g = w.heap.size + 1 := ⟨_, rfl⟩
  obtain ⟨gr, hgr⟩ : ∃ g, g = w.heap.size + 1 + 1 := ⟨_, rfl⟩
  rw [← hgr] at BR ⊢
  rw [← hgc] at BC ⊢
  rw [← hgx] at BX ⊢
  have HGX := Lib.hid hgx
  have hgxr : gx < gr := by omega
  clear hgx hgc hgr
  generalize ((w.alloc (.cells #[.int .i64 x.1, .int .i64 x.2] 42)).alloc (.cells #[.int .i64 c.1.1, .int .i64 c.1.2, .int .i64 c.2.1, .int .i64 c.2.2] 76)).alloc (.cells #[.slice none 0 0, .int .i64 0, .int .i64 0, .int .i64 0, .int .i64 0, .int .i64 0] 213) = w1 at *
  have x0 := BX.out.cell 0
  have x1 := BX.out.cell 1
  have c0 := BC.out.cell 0
  have c1 := BC.out.cell 1
  have c2 := BC.out.cell 2
  have c3 := BC.out.cell 3
  simp at x0 x1 c0 c1 c2 c3
  have fl := (Fr.refl w1.heap.size [] w1).alloc (Nat.le_refl _) (.cells #[.int .i64 x.1, .int .i64 x.2] 42)
  have HE1 := Lib.hid (HE.out w1.heap.size _ (FA.out.trans (fl.mono (B' := w.heap.size) (L' := []) FA.out.size (by simp))) (Blk.new w1 42 #[.int .i64 x.1, .int .i64 x.2]))
  have BR1 := Lib.hid (BR.out.fr fl BR.out.lt (by simp))
  have FA1 := Lib.hid (FA.out.trans (fl.mono (B' := w.heap.size) (L' := []) FA.out.size (by simp)))
  clear fl BX BC BR FA HE
  go_wp2_with fail
  refine HE1.out.mono ?_
  rintro e w2 ⟨A, n, cc, st, hn, rfl, how, f2⟩
  have HN := Lib.hid hn
  have HOW := Lib.hid how
  have BR2 := Lib.hid (BR1.out.fr f2 BR1.out.lt (by simp))
  have FA2 := Lib.hid (FA1.out.trans (f2.mono (B' := w.heap.size) (L' := []) FA1.out.size (by simp)))
  have HSZ := Lib.hid FA1.out.size
  clear hn how f2 HE1 BR1 FA1 x0 x1 c0 c1 c2 c3
  have r0 := BR2.out.cell 0
  have r1 := BR2.out.cell 1
  have r2 := BR2.out.cell 2
  have r3 := BR2.out.cell 3
  have r4 := BR2.out.cell 4
  have r5 := BR2.out.cell 5
  have z0 := BR2.out.frozen 0
  have z1 := BR2.out.frozen 1
  have z2 := BR2.out.frozen 2
  have z3 := BR2.out.frozen 3
  have z4 := BR2.out.frozen 4
  have z5 := BR2.out.frozen 5
  simp at r0 r1 r2 r3 r4 r5
  go_wp2_with fail
  have fs := (((((((Fr.refl w2.heap.size [gr] w2).setCell (p := ⟨gr, 0, none⟩) (.inr (by simp)) (.slice A n cc)).setCell (p := ⟨gr, 1, none⟩) (.inr (by simp)) (.int .i64 (celP l x c).1.1)).setCell (p := ⟨gr, 2, none⟩) (.inr (by simp)) (.int .i64 (celP l x c).1.2)).setCell (p := ⟨gr, 3, none⟩) (.inr (by simp)) (.int .i64 (celP l x c).2.1)).setCell (p := ⟨gr, 4, none⟩) (.inr (by simp)) (.int .i64 (celP l x c).2.2)).setCell (p := ⟨gr, 5, none⟩) (.inr (by simp)) (.int .i64 st))
  have bs := ((((((BR2.out.set_ 0 (.slice A n cc)).set_ 1 (.int .i64 (celP l x c).1.1)).set_ 2 (.int .i64 (celP l x c).1.2)).set_ 3 (.int .i64 (celP l x c).2.1)).set_ 4 (.int .i64 (celP l x c).2.2)).set_ 5 (.int .i64 st))
  simp only [List.setIfInBounds_toArray, List.set_cons_zero, List.set_cons_succ] at bs
  have hne := BR2.out.ne_own HOW.out (by decide)
  have os := ownsRow_base (ownsRow_fr HOW.out fs (fun q hq => ⟨(HOW.out.lt q hq).2, by simp; rintro rfl; exact hne hq.symm⟩)) HSZ.out
  have ff := FA2.out.trans (fs.mono (B' := w.heap.size) (L' := []) FA2.out.size (by simp; rw [← HGX.out]; omega))
  exact bodyPost_ret (results_cell_row_tmp rfl _ _ gr 213 #[.slice A n cc, .int .i64 (celP l x c).1.1, .int .i64 (celP l x c).1.2, .int .i64 (celP l x c).2.1, .int .i64 (celP l x c).2.2, .int .i64 st] (0, 0) _ rfl bs Tryz.underlying213 rfl (by kernel_rfl)) rfl ⟨A, n, cc, st, HN.out, rfl, os, ff⟩
end Go.Proofs.YthfibggbipkmfaaGreat
