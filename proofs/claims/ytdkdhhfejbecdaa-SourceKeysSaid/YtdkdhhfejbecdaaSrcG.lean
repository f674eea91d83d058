/- A source with one partition: Between and Upto. -/
import Derived.Test.YtdkdhhfejbecdaaSrcF
import Derived.Deep.DeepCutAuto
namespace Go.Proofs.Ytdkdhhfejbecdaa
open Go.RowKit Go.Fb
/-- A list of offsets that says a for the one partition. -/
def Off (w : World) (v : Value) (a : Nat) : Prop := (v = .slice none 0 0 ∧ a = 0) ∨ ∃ A c, v = .slice A 1 c ∧ Reads w w.heap.size 1 A 1 [.int .i64 (a : Int)]
theorem Off.keep {w w' : World} {v : Value} {a : Nat} (h : Off w v a) (hf : Fr w.heap.size [] w w') : Off w' v a := by
  rcases h with h | ⟨A, c, h1, h2⟩
  · exact .inl h
  · exact .inr ⟨A, c, h1, (h2.fr hf (Nat.le_refl _) (by simp)).more hf.size⟩
theorem held_off {w : World} {v : Value} {a m : Nat} (h : Off w v a) (ha : a ≤ m) : Calls Try.prog 139 #[v, .int .i64 0, .int .i64 m] w fun e w' => e = .returned (.int .i64 a) ∧ w = w' := by
  rcases h with ⟨rfl, rfl⟩ | ⟨A, c, rfl, h⟩
  · exact held_nil m w
  · exact held_one ha w h
theorem seg_len {l : List (Nat → Int)} {a b : Nat} (hab : a ≤ b) (hb : b ≤ l.length) : ((l.take b).drop a).length = b - a := by simp; omega
theorem reads_seg {w : World} {B g m : Nat} {l : List (Nat → Int)} (h : Reads w B 3 (some ⟨g, 0, none⟩) m (cellsR l)) (hm : m = l.length) {a b : Nat} (hab : a < b) (hb : b ≤ m) : Reads w B 3 (some ⟨g, a * 3, none⟩) (b - a) (cellsR ((l.take b).drop a)) := by
  have hl := seg_len (l := l) (a := a) (b := b) (by omega) (by omega)
  refine ⟨by rw [cellsR_length, hl], fun _ => ?_⟩
  obtain ⟨b', off, e, hb', hc⟩ := h.2 (by omega)
  injection e with e
  injection e with e1 e2
  subst e1 e2
  refine ⟨g, a * 3, rfl, hb', fun j u hu => ?_⟩
  have hj : j < (b - a) * 3 := by
    rcases Nat.lt_or_ge j ((b - a) * 3) with h' | h'
    · exact h'
    · rw [List.getElem?_eq_none (by rw [cellsR_length, hl]; omega)] at hu; cases hu
  have hk : j / 3 < b - a := by omega
  have hx : ((l.take b).drop a)[j / 3]? = some (l[a + j / 3]'(by omega)) := by
    rw [List.getElem?_drop, List.getElem?_take_of_lt (by omega), List.getElem?_eq_getElem (by omega)]
  have h1 := cellsR_get hx (j % 3) (Nat.mod_lt _ (by omega))
  rw [show j / 3 * 3 + j % 3 = j by omega, hu] at h1
  have h2 := cellsR_get (List.getElem?_eq_getElem (show a + j / 3 < l.length by omega)) (j % 3) (Nat.mod_lt _ (by omega))
  have h3 := hc _ _ h2
  rw [show 0 + ((a + j / 3) * 3 + j % 3) = a * 3 + j by omega] at h3
  rw [h3, ← h1]
set_option maxRecDepth 100000 in
set_option maxHeartbeats 1000000 in
theorem between1 {base gs gp : Nat} {l : List (Nat → Int)} {at_ : Nat} {V : Value} {w : World} (h : Sr base gs gp l at_ V w) (hl : l.length ≤ 400) (fv tv : Value) (a b : Nat) (hab : a ≤ b) (hb : b ≤ l.length) (hf : Off w fv a) (ht : Off w tv b) :
    Calls Try.prog 108 #[.pointer (some ⟨gs, 0, none⟩), fv, tv] w fun e w' => ∃ A c, e = .returned (.slice A (b - a) c) ∧ w'.ownsRow w.heap.size 64 3 (.slice A (b - a) c) (b - a) (cellsR ((l.take b).drop a)) ∧ Fr w.heap.size [] w w' := by
  have ho := h.own
  obtain ⟨A1, c1, rfl, _, hc1, _⟩ := ownsRow_shape ho
  have hrd := Lib.hid (Reads.of_own ho)
  have HOF := Lib.hid hf
  have HOT := Lib.hid ht
  have H := Lib.hid h
  have l1 := h.st.lt
  have l2 := h.pt.lt
  have s8 := h.st.cell 8
  have t0 := h.pt.cell 0
  have t1 := h.pt.cell 1
  simp at s8 t0 t1
  have HSL := Lib.hid (seg_len hab hb)
  obtain ⟨m, hm⟩ : ∃ m, m = l.length := ⟨_, rfl⟩
  rw [← hm] at hl hb t0 hc1 hrd
  have HM := Lib.hid hm
  clear h hm hf ht ho
  go_enter Try.func108, Try.ntmps108
  go_wp2_with fail
  go_loopw [7, 19] (fun s i wr => (i = .int .i64 0 ∧ s = .slice none 0 0 ∧ wr = w) ∨ (i = .int .i64 1 ∧ ∃ A c, s = .slice A (b - a) c ∧ RowKit.Hid (wr.ownsRow w.heap.size 64 3 (.slice A (b - a) c) (b - a) (cellsR ((l.take b).drop a))) ∧ RowKit.Hid (Fr w.heap.size [] w wr))) (fun _ i _ => 1 - (intOf i).toNat)
  case atStart => exact .inl ⟨rfl, rfl, rfl⟩
  case round =>
    rcases hrel with ⟨rfl, rfl, rfl⟩ | ⟨rfl, A, c, rfl, HO, HF⟩
    · go_wp2_with fail
      have bx := Blk.new wr 118 #[.slice A1 m c1, .int .i64 at_]
      have fx := (Fr.refl wr.heap.size [] wr).alloc (Nat.le_refl _) (.cells #[.slice A1 m c1, .int .i64 at_] 118)
      generalize wr.alloc _ = w1 at *
      generalize hgx : wr.heap.size = gx at *
      have OF := Lib.hid ((HOF.out.keep (by rw [hgx]; exact fx)).keep ((Fr.refl w1.heap.size [] w1).drew))
      have OT := Lib.hid ((HOT.out.keep (by rw [hgx]; exact fx)).keep ((Fr.refl w1.heap.size [] w1).drew))
      have HD : RowKit.Hid (w1.drew.cell? ⟨gx, 0, none⟩ = some (.slice A1 m c1)) := bx.drew.cell 0
      go_region_held3 (fun wx => wx.cell? ⟨gx, 0, none⟩ = some (.slice A1 m c1)) (exact HD.out)
        ((go_at_call 139; refine (held_off (m := m) (by first | exact OF.out | exact OT.out) (by omega)).mono ?_; rintro e w' ⟨rfl, rfl⟩))
      all_goals
        have F1 := Lib.hid fx.drew
        have hgxs : gx ≤ w1.drew.heap.size := by have := fx.size; show gx ≤ w1.heap.size; omega
        have x0 := HD.out
        have hrw := Lib.hid ((hrd.out.fr fx.drew (Nat.le_refl _) (by simp)).more hgxs)
        clear bx fx s8 t0 t1 HOF HOT OF OT HD
        generalize w1.drew = w2 at *
        by_cases hlt : a < b
        · obtain ⟨g, cap, hv, _, _⟩ := H.out.own.form (by rw [← HM.out]; omega)
          have hA : A1 = some ⟨g, 0, none⟩ := by injection hv
          subst hA
          have hseg := reads_seg hrw.out HM.out hlt hb
          have ha0 : (0 : Int) ≤ (a : Int) := by omega
          have hab1 : (a : Int) ≤ (b : Int) := by omega
          have hbc : (b : Int) ≤ (c1 : Int) := by omega
          clear hv
          go_wp2_with (at_builtin; refine wpList_app _ rfl (.tmp 39) (.tmp 44) recTy rfl gx (.slice none 0 0) 0 [] rfl (World.ownsRow_nil _ _ _ _) w2.heap.size (some ⟨g, a * 3, none⟩) (b - a) (c1 - a) (cellsR ((l.take b).drop a)) rfl hseg recC_one (by omega) (by omega) hgxs ?_; intro A3 c3 w3 hown3 hg3 hat3)
          go_roundw
          case rel =>
            rw [Nat.zero_add] at hown3
            refine .inr ⟨by go_num, A3, c3, by simp, by show World.ownsRow _ _ _ _ _ _ _; rw [hgx]; simpa using hown3, ?_⟩
            show Fr _ _ _ _
            rw [hgx]
            exact F1.out.grown hg3 hgxs (fun k hk => by simp [Value.ownBlock] at hk)
          case measure => simp [intOf]
        · go_wp2_with fail
          go_roundw
          case rel =>
            have hz : b - a = 0 := by omega
            have hnil : (l.take b).drop a = [] := List.eq_nil_of_length_eq_zero (by rw [HSL.out, hz])
            refine .inr ⟨by go_num, none, 0, by rw [hz], ?_, by show Fr _ _ _ _; rw [hgx]; exact F1.out⟩
            show World.ownsRow _ _ _ _ _ _ _
            rw [hz, hnil]
            exact World.ownsRow_nil _ _ _ _
          case measure => simp [intOf]
    · have hle : b - a ≤ 1000 := by omega
      go_wp2_with fail
      refine (clone_any A (b - a) c _ _ HSL.out.symm hle (Reads.of_own HO.out)).mono ?_
      rintro e w9 ⟨A9, c9, rfl, ho9, f9⟩
      have hsz := HF.out.size
      have HO9 := Lib.hid (ownsRow_base ho9 hsz)
      have F9 := Lib.hid (HF.out.trans (f9.mono hsz (by simp)))
      clear ho9 f9
      go_wp2_with fail
      go_ret
      exact ⟨A9, c9, rfl, HO9.out, F9.out⟩
theorem upto1 {base gs gp : Nat} {l : List (Nat → Int)} {at_ : Nat} {V : Value} {w : World} (h : Sr base gs gp l at_ V w) (hl : l.length ≤ 400) (tv : Value) (b : Nat) (hb : b ≤ l.length) (ht : Off w tv b) :
    Calls Try.prog 72 #[.pointer (some ⟨gs, 0, none⟩), tv] w fun e w' => ∃ A c, e = .returned (.slice A b c) ∧ w'.ownsRow w.heap.size 64 3 (.slice A b c) b (cellsR (l.take b)) ∧ Fr w.heap.size [] w w' := by
  have hB := between1 h hl (.slice none 0 0) tv 0 b (Nat.zero_le _) hb (.inl ⟨rfl, rfl⟩) ht
  rw [Nat.sub_zero, List.drop_zero] at hB
  have HB := Lib.hid hB
  clear hB h ht
  go_enter Try.func72, Try.ntmps72
  go_wp2_with fail
  refine HB.out.mono ?_
  rintro e w1 ⟨A, c, rfl, ho, hf⟩
  have HO := Lib.hid ho
  have HF := Lib.hid hf
  clear ho hf
  go_wp2_with fail
  go_ret
  exact ⟨A, c, rfl, HO.out, HF.out⟩
end Go.Proofs.Ytdkdhhfejbecdaa
