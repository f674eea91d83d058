/- The contract of route.Parts: the walk. -/
import Derived.Test.YtkmkdodhahcpdaaPartsB
import Derived.Test.YtkmkdodhahcpdaaRouteD
namespace Go.Proofs.Ytkmkdodhahcpdaa
open Go.RowKit Go.Fb
abbrev nodeV (id par : Int) (u1 u2 u3 : Value) (r : Nat → Int) : Value := .agg #[.int .i64 id, u1, u2, u3, .int .i64 par, .int .i64 (r 0), .int .i64 (r 1), .int .i64 (r 2), .int .i64 (r 3), .int .i64 (r 4), .int .i64 (r 5), .int .i64 (r 6), .int .i64 (r 7)]
set_option maxRecDepth 100000 in
theorem parts_no (id par : Int) (u1 u2 u3 : Value) (r : Nat → Int) (v : Value) (w : World) (h : right8 par r = false) :
    Calls Try.prog 26 #[nodeV id par u1 u2 u3 r, v] w fun e w' => e = .returned (.slice none 0 0) ∧ Fr w.heap.size [] w w' := by
  have H := Lib.hid h
  clear h
  go_enter Try.func26, Try.ntmps26
  go_wp2_with fail
  refine (right_any par r _).mono ?_
  rintro e w1 ⟨rfl, f1⟩
  rw [H.out]
  go_wp2_with fail
  go_ret
  exact ⟨rfl, ((Fr.refl _ _ _).alloc (Nat.le_refl _) _).trans (f1.mono (by simp) (by simp))⟩
theorem fr_off {B : Nat} {w w' : World} (h : Fr B [] w w') : ∀ i g, g < B → w'.cell? ⟨g, i, none⟩ = w.cell? ⟨g, i, none⟩ := fun _ _ hg => h.cell hg (by simp)
set_option maxRecDepth 100000 in
set_option maxHeartbeats 1000000 in
theorem parts_yes (id : Int) (par : Nat) (u1 u2 u3 : Value) (r : Nat → Int) (l : List (Nat → Int)) (A : Option Addr) (c : Nat) (w : World) (hright : right8 par r = true) (hl : l.length ≤ 100) (hr : Reads w w.heap.size 6 A l.length (cellsE l)) :
    Calls Try.prog 26 #[nodeV id par u1 u2 u3 r, .slice A l.length c] w fun e w' => ∃ gr R, e = .returned (.slice (some ⟨gr, 0, none⟩) par par) ∧ PInv w gr par (fun t => partC id r t l) R w' := by
  have hp : 1 ≤ par ∧ par ≤ 3 := by
    have := (Bool.and_eq_true _ _).mp hright
    have := of_decide_eq_true this.1
    omega
  obtain ⟨hp1, hp3⟩ := hp
  have H := Lib.hid hright
  have HR := Lib.hid hr
  have HX := Lib.hid (fun (k : Nat) (hk : k < l.length) => (⟨l[k], List.getElem?_eq_getElem hk⟩ : ∃ x, l[k]? = some x))
  have HM := fun W => entrows par (by omega) W
  have HG := Lib.hid (fun k (hk : k < 8) => right8_get hright hk)
  clear hr hright
  obtain ⟨n, hn⟩ : ∃ n, n = l.length := ⟨_, rfl⟩
  have HN := Lib.hid hn
  rw [← hn] at hl ⊢
  clear hn
  go_enter Try.func26, Try.ntmps26
  go_wp2_with fail
  have B1 := Lib.hid (Blk.new w 41 #[.int .i64 id, u1, u2, u3, .int .i64 par, .int .i64 (r 0), .int .i64 (r 1), .int .i64 (r 2), .int .i64 (r 3), .int .i64 (r 4), .int .i64 (r 5), .int .i64 (r 6), .int .i64 (r 7)])
  have F1 := Lib.hid ((Fr.refl w.heap.size [] w).alloc (Nat.le_refl _) (.cells #[.int .i64 id, u1, u2, u3, .int .i64 par, .int .i64 (r 0), .int .i64 (r 1), .int .i64 (r 2), .int .i64 (r 3), .int .i64 (r 4), .int .i64 (r 5), .int .i64 (r 6), .int .i64 (r 7)] 41))
  generalize w.alloc _ = w1 at *
  refine (right_any par r _).mono ?_
  rintro e w2 ⟨rfl, f2⟩
  rw [H.out]
  have B2 := Lib.hid (B1.out.fr f2 B1.out.lt (by simp))
  have F2 := Lib.hid (F1.out.trans (f2.mono F1.out.size (by simp)))
  have hpar := B2.out.cell 4
  simp at hpar
  clear f2
  go_wp2_with fail
  have hrow := Blk.new w2 42 (rowsA par fun _ => .slice none 0 0)
  have f3 := (Fr.refl w2.heap.size [] w2).alloc (Nat.le_refl _) (.cells (rowsA par fun _ => .slice none 0 0) 42)
  generalize w2.alloc _ = w3 at *
  have INV0 : RowKit.Hid (PInv w2 w2.heap.size par (fun t => partC id r t (l.take 0)) (fun _ => .slice none 0 0) w3) :=
    ⟨hrow, Nat.le_refl _, fun t _ => (World.ownsRow_nil _ _ _ _ : w3.ownsRow _ _ _ _ 0 []), fun _ _ => by simp [Value.ownBlock], fun _ _ _ _ _ q hq => by simp [Value.ownBlock] at hq, f3⟩
  have hgr : w2.heap.size < w3.heap.size := hrow.lt
  have hnb : w.heap.size < w2.heap.size := B2.out.lt
  have hx3 := fun k x (hx : l[k]? = some x) => reads_ent (HR.out.fr F2.out (Nat.le_refl _) (by simp)) hx
  have HX3 := Lib.hid hx3
  clear hx3 hrow f3 hpar
  generalize hgre : w2.heap.size = gr at *
  go_loopw [7, 20] (fun s7 i wr => ∃ (k : Nat) (R : Nat → Value), k ≤ n ∧ i = .int .i64 k ∧ (s7 = undef ∨ ∃ a, s7 = .pointer a) ∧ RowKit.Hid (PInv w2 gr par (fun t => partC id r t (l.take k)) R wr)) (fun _ i _ => n - (intOf i).toNat)
  case atStart => exact ⟨0, _, by omega, rfl, .inl rfl, INV0⟩
  case round =>
    obtain ⟨k, R, hk, rfl, hs7, INV⟩ := hrel
    by_cases hkn : k < n
    · obtain ⟨x, hx⟩ := HX.out k (by rw [← HN.out]; exact hkn)
      obtain ⟨b1, o1, rfl, hb1, hc1⟩ := HX3.out k x hx
      have fw := INV.out.fr
      have hlt := fw.size
      have hq := fun j hj => (fw.cell (p := ⟨b1, o1 + (k * 6 + j), none⟩) (by show b1 < _; omega) (by simp)).trans (hc1 j hj)
      have p0 := hq 0 (by omega)
      have p1 := hq 1 (by omega)
      have p2 := hq 2 (by omega)
      have p3 := hq 3 (by omega)
      have p4 := hq 4 (by omega)
      have p5 := hq 5 (by omega)
      simp only [Nat.add_zero, ← Nat.add_assoc] at p0 p1 p2 p3 p4 p5
      have hki : (k : Int) < (n : Int) := by omega
      have hid0 := (B2.out.fr fw (by omega) (by simp)).cell 0
      have BN := Lib.hid (B2.out.fr fw (by omega) (by simp))
      simp at hid0
      clear hc1 hq fw
      go_upto_region 7 with fail
      obtain ⟨wa, hwa⟩ : ∃ wa, wa = wr.alloc (.cells #[.int .i64 (x 0), .int .i64 (x 1), .int .i64 (x 2), .int .i64 (x 3), .int .i64 (x 4), .int .i64 (x 5)] 47) := ⟨_, rfl⟩
      have hba : Blk wa wr.heap.size 47 #[.int .i64 (x 0), .int .i64 (x 1), .int .i64 (x 2), .int .i64 (x 3), .int .i64 (x 4), .int .i64 (x 5)] := by rw [hwa]; exact Blk.new _ _ _
      have hfa : Fr wr.heap.size [] wr wa := by rw [hwa]; exact (Fr.refl _ _ _).alloc (Nat.le_refl _) _
      rw [← hwa]
      have INVA : RowKit.Hid (PInv w2 gr par (fun t => partC id r t (l.take k)) R wa) := INV.out.keep hfa
      have BA := Lib.hid (BN.out.fr hfa BN.out.lt (by simp))
      have hgx : gr < wr.heap.size := INV.out.blk.lt
      have hra := fun t (ht : t < par) => (INV.out.own t ht)
      have HRA := Lib.hid hra
      clear hwa hfa p0 p1 p2 p3 p4 p5 hid0 hra
      obtain ⟨gx, hgxe⟩ : ∃ gx, gx = wr.heap.size := ⟨_, rfl⟩
      rw [← hgxe] at hba hgx ⊢
      have q0 := hba.cell 0
      have q1 := hba.cell 1
      have hid1 := BA.out.cell 0
      have w4 := BA.out.cell 5
      have w5 := BA.out.cell 6
      have w6 := BA.out.cell 7
      have w7 := BA.out.cell 8
      have w8 := BA.out.cell 9
      have w9 := BA.out.cell 10
      have w10 := BA.out.cell 11
      have w11 := BA.out.cell 12
      simp at hid1 q0 q1 w4 w5 w6 w7 w8 w9 w10 w11
      have HBA := Lib.hid hba
      have HGX := Lib.hid hgxe
      clear hba hgxe
      have HS := Lib.hid (fun t => partC_step (id := id) (r := r) (t := t) hx)
      by_cases h0 : x 0 = id
      · subst h0
        go_wp2_with fail
        refine (task_any r (x 1) _).mono ?_
        rintro e w5 ⟨rfl, f5⟩
        obtain ⟨d, hd⟩ : ∃ d, d = (x 1 % 8).toNat := ⟨_, rfl⟩
        rw [← hd]
        have hd8 : d < 8 := by omega
        obtain ⟨h0r, h1r⟩ := HG.out d hd8
        obtain ⟨t, ht⟩ := Int.eq_ofNat_of_zero_le h0r
        have htp : t < par := by omega
        rw [ht]
        have HT := Lib.hid ht
        have HD := Lib.hid hd
        have BX := Lib.hid (HBA.out.fr f5 HBA.out.lt (by simp))
        have INVW : RowKit.Hid (PInv w2 gr par (fun t => partC (x 0) r t (l.take k)) R w5) := INVA.out.keep f5
        have hgx5 : gx < w5.heap.size := BX.out.lt
        have hgr5 : gr < w5.heap.size := INVW.out.blk.lt
        clear hd ht f5 q0 q1 hid1 h0r h1r hd8
        have ho := INVW.out.own t htp
        obtain ⟨A1, c1, hRt, _, _, _⟩ := ownsRow_shape ho
        have hcr := INVW.out.blk.cell t
        rw [rowsA_get R htp, hRt] at hcr
        have hfz := INVW.out.blk.frozen t
        have hoff := INVW.out.off t htp
        have hoffx : (R t).ownBlock ≠ some gx := fun hq => by
          have := (HRA.out t htp).lt gx hq
          have := HGX.out
          omega
        rw [hRt] at ho hoff hoffx
        have hmn : (partC (x 0) r t (l.take k)).length ≤ k := Nat.le_trans (partC_le _ _ _ _) (by simp; omega)
        obtain ⟨m, hm⟩ : ∃ m, m = (partC (x 0) r t (l.take k)).length := ⟨_, rfl⟩
        rw [← hm] at ho hmn hcr hRt hoff hoffx
        have HRT := Lib.hid hRt
        have HCV := Lib.hid ((rowsA_get R htp).trans (congrArg some hRt))
        have HMM := Lib.hid hm
        clear hRt hm
        have c0 := BX.out.cell 0
        have c1' := BX.out.cell 1
        have c2 := BX.out.cell 2
        have c3 := BX.out.cell 3
        have c4 := BX.out.cell 4
        have c5 := BX.out.cell 5
        simp at c0 c1' c2 c3 c4 c5
        have hti : (t : Int) < (par : Int) := by omega
        have ht0 : (0 : Int) ≤ (t : Int) := by omega
        obtain ⟨i0, hi0, hz0, hz1, hz2⟩ := info_parts (show (Try.prog.info? 47).map (fun i => (i.zero, i.size, i.bytes)) = some (some (.agg #[.int .i64 0, .int .i64 0, .int .i64 0, .int .i64 0, .int .i64 0, .int .i64 0]), 6, 48) by kernel_rfl)
        go_wp2_with fail
        go_region_law
          ((refine step_append_lies _ (by rfl) _ _ _ (by rfl) w2.heap.size 47 i0 _ 6 48 Try.underlying42 hi0 hz0 hz1 hz2 rfl (by omega) (.slice A1 m c1) m _ (by rfl) ((ho.alloc _).drew)
              ⟨w5.heap.size, 0, none⟩ 1 1 (entC x) (by rfl) (by rfl) (World.news_of_block (cs := (entC x).toArray) (t := 47) (fr := (0, 0)) (heap_alloc_new w5 _)) (by simp [entC, Value.oneCell'])
              (by omega) (by unfold maxLen; omega) (by omega) (by simp; omega) (w5.heap.size + 1) (by simp) ?_; intro gg cap w6 hown1 hgrow hat hlt6; have hfz6 : w6.frozen? ⟨gr, t, none⟩ = false := (hgrow.frozen_far ⟨gr, t, none⟩ (by simp; omega) (Ne.symm hoff)).trans ((INVW.out.blk.alloc _).frozen t); have hcr6 : w6.cell? ⟨gr, t, none⟩ = some (.slice A1 m c1) := (hgrow.cell_far ⟨gr, t, none⟩ (by simp; omega) (Ne.symm hoff)).trans (((INVW.out.blk.alloc _).cell t).trans HCV.out)))
        all_goals
          go_wp2_with fail
          go_roundw
          case rel =>
            have hmm := HMM.out
            subst hmm
            have hG := (INVW.out.keep (Fr.drew (Fr.refl _ _ _))).grow (x := x) (g := gg) (c := cap) (w' := w6) htp hown1 (by rw [HRT.out]; exact (World.grownBy_alloc w5.drew _ _).trans hgrow) (by
              rw [HRT.out]
              rcases hat with hat | hat
              · exact .inl hat
              · exact .inr (by show w5.heap.size ≤ gg; omega)) hlt6
            refine ⟨k + 1, _, by omega, by go_num, .inr ⟨_, rfl⟩, hG.congr fun u _ => ?_⟩
            rw [HS.out u]
            have hi : inPart (x 0) r u x = decide (u = t) := by
              rw [Bool.eq_iff_iff]
              simp [inPart, ← HD.out, HT.out]
              omega
            rw [hi]
            by_cases e : u = t <;> simp [e]
          case measure => simp [intOf]; omega
      · go_wp2_with fail
        go_roundw
        case rel =>
          refine ⟨k + 1, R, by omega, by go_num, .inr ⟨_, rfl⟩, ?_⟩
          refine INVA.out.congr fun t _ => ?_
          rw [HS.out t]
          simp [inPart, h0]
        case measure => simp [intOf]; omega
    · obtain rfl : k = n := by omega
      have INV' := INV
      clear INV
      go_wp2_with fail
      go_ret
      have hlk : l.take k = l := by rw [HN.out]; exact List.take_length
      refine ⟨gr, R, rfl, ?_⟩
      have h := INV'.out
      rw [hlk] at h
      exact ⟨h.blk, by omega, fun t ht => ownsRow_base (h.own t ht) (by omega), h.off, h.dis, F2.out.trans (h.fr.mono F2.out.size (by simp))⟩
end Go.Proofs.Ytkmkdodhahcpdaa
