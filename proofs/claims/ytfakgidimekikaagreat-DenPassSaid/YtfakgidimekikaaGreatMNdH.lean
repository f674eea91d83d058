/- Texts merged into one, for the number of files a claim may have: NdH. -/
import Derived.Test.YtfakgidimekikaaGreatMB
import Derived.Deep.RegionHeld3
import Derived.Deep.DeepCutAuto
import Derived.BigRegion
namespace Go.Proofs.YtfakgidimekikaaGreat
open Go.RowKit Go.Fb
inductive StN (c : Ndm → Ndm → Int) (xs0 : List Ndm) : Nat → Nat → List Ndm → Prop
  | start : StN c xs0 1 1 xs0
  | swap {i j : Nat} {xs : List Ndm} {a b : Ndm} : StN c xs0 i (j + 1) xs → xs[j + 1]? = some a → xs[j]? = some b → c a b < 0 → StN c xs0 i j ((xs.set (j + 1) b).set j a)
  | next {i j : Nat} {xs : List Ndm} : StN c xs0 i j xs → (j = 0 ∨ ∃ k a b, j = k + 1 ∧ xs[k + 1]? = some a ∧ xs[k]? = some b ∧ ¬ c a b < 0) → StN c xs0 (i + 1) (i + 1) xs
theorem StN.len {c : Ndm → Ndm → Int} {xs0 : List Ndm} {i j : Nat} {xs : List Ndm} (h : StN c xs0 i j xs) : xs.length = xs0.length := by
  induction h with
  | start => rfl
  | swap _ _ _ _ ih => simpa using ih
  | next _ _ ih => exact ih
theorem StN.mem {c : Ndm → Ndm → Int} {xs0 : List Ndm} {i j : Nat} {xs : List Ndm} (h : StN c xs0 i j xs) : ∀ x ∈ xs, x ∈ xs0 := by
  induction h with
  | start => exact fun _ h => h
  | swap _ ha hb _ ih =>
    intro x hx
    rcases List.mem_or_eq_of_mem_set hx with hx | rfl
    · rcases List.mem_or_eq_of_mem_set hx with hx | rfl
      · exact ih x hx
      · exact ih _ (List.mem_of_getElem? hb)
    · exact ih _ (List.mem_of_getElem? ha)
  | next _ _ ih => exact ih
theorem ownsRow_setN {w : World} {base e size n g c : Nat} {xs : List Value} (h : w.ownsRow base e size (.slice (some ⟨g, 0, none⟩) n c) n xs) (k : Nat) (u : Value) :
    (w.setCell ⟨g, k, none⟩ u).ownsRow base e size (.slice (some ⟨g, 0, none⟩) n c) n (xs.set k u) := by
  obtain ⟨hl, hc⟩ := h
  refine ⟨by rw [List.length_set]; exact hl, .inr ?_⟩
  rcases hc with ⟨hn, _⟩ | ⟨g', cap, cur, hv, hb, hg, h1, h2, h3, h4⟩
  · cases hn
  · have hv' := hv
    injection hv with hv1 hv2 hv3
    injection hv1 with hv1
    injection hv1 with hv1
    subst hv1
    refine ⟨g, cap, cur.setIfInBounds k u, hv', hb, ?_, h1, h2, by rw [Array.size_setIfInBounds]; exact h3, ?_⟩
    · simp [World.setCell, Array.getElem?_modify, hg]
    · rw [Array.toList_setIfInBounds, List.take_set, h4]
/-- The cells of a node set into a list of cells, one by one. -/
def setAt (xs : List Value) (o : Nat) : Nat → List Value → List Value
  | _, [] => xs
  | j, u :: us => setAt (xs.set (o + j) u) o (j + 1) us
theorem setAt_cons (a : Value) (o : Nat) : ∀ (us xs : List Value) (j : Nat), setAt (a :: xs) (o + 1) j us = a :: setAt xs o j us
  | [], _, _ => rfl
  | u :: us, xs, j => by
    show setAt ((a :: xs).set (o + 1 + j) u) (o + 1) (j + 1) us = a :: setAt (xs.set (o + j) u) o (j + 1) us
    rw [show o + 1 + j = (o + j) + 1 by omega, List.set_cons_succ]
    exact setAt_cons a o us (xs.set (o + j) u) (j + 1)
theorem setAt_app (ls xs : List Value) (o : Nat) (us : List Value) : setAt (ls ++ xs) (ls.length + o) 0 us = ls ++ setAt xs o 0 us := by
  induction ls with
  | nil => simp
  | cons a ls ih => rw [List.cons_append, List.length_cons, show ls.length + 1 + o = (ls.length + o) + 1 by omega, setAt_cons, ih]; rfl
theorem cellsN_set : ∀ (M : List Ndm) (i : Nat) (m : Ndm), i < M.length → cellsN (M.set i m) = setAt (cellsN M) (i * 13) 0 (ndL m)
  | [], i, m, h => by simp at h
  | y :: M, 0, m, _ => by
    show ndL m ++ cellsN M = setAt (ndL y ++ cellsN M) (0 * 13) 0 (ndL m)
    rfl
  | y :: M, i + 1, m, h => by
    have ih := cellsN_set M i m (by simpa using h)
    rw [List.set_cons_succ]
    show ndL y ++ cellsN (M.set i m) = setAt (ndL y ++ cellsN M) ((i + 1) * 13) 0 (ndL m)
    rw [ih, show (i + 1) * 13 = (ndL y).length + i * 13 by simp [ndL]; omega, setAt_app]
theorem nd_cell {w : World} {base n g c : Nat} {M : List Ndm} (h : w.ownsRow base 50 13 (.slice (some ⟨g, 0, none⟩) n c) n (cellsN M)) {k : Nat} {m : Ndm} (hk : M[k]? = some m) (j : Nat) (u : Value) (hu : (ndL m)[j]? = some u) : w.cell? ⟨g, k * 13 + j, none⟩ = some u := by
  have hj : j < 13 := by
    rcases Nat.lt_or_ge j 13 with h | h
    · exact h
    · rw [List.getElem?_eq_none (by have : (ndL m).length = 13 := rfl; omega)] at hu; cases hu
  have h1 : (cellsN M)[k * 13 + j]? = some u := by rw [cellsN_get hk j hj]; exact hu
  have hn : 0 < n := by
    rcases Nat.eq_zero_or_pos n with h0 | h0
    · have hl := h.1
      have : (cellsN M).length = 0 := by rw [hl, h0]
      rw [List.getElem?_eq_none (by omega)] at h1; cases h1
    · exact h0
  obtain ⟨b, off, e, _, hc⟩ := (Reads.of_own h).2 hn
  injection e with e
  injection e with e1 e2 _
  subst e1
  subst e2
  have := hc _ u h1
  simpa using this
/-- Cells of one block written one by one. -/
def setW (w : World) (g o : Nat) : Nat → List Value → World
  | _, [] => w
  | j, u :: us => setW (w.setCell ⟨g, o + j, none⟩ u) g o (j + 1) us
theorem nest_nd (w : World) (g o : Nat) (u0 u1 u2 u3 u4 u5 u6 u7 u8 u9 u10 u11 u12 : Value) : (((((((((((((w.setCell ⟨g, o, none⟩ u0).setCell ⟨g, o + 1, none⟩ u1).setCell ⟨g, o + 2, none⟩ u2).setCell ⟨g, o + 3, none⟩ u3).setCell ⟨g, o + 4, none⟩ u4).setCell ⟨g, o + 5, none⟩ u5).setCell ⟨g, o + 6, none⟩ u6).setCell ⟨g, o + 7, none⟩ u7).setCell ⟨g, o + 8, none⟩ u8).setCell ⟨g, o + 9, none⟩ u9).setCell ⟨g, o + 10, none⟩ u10).setCell ⟨g, o + 11, none⟩ u11).setCell ⟨g, o + 12, none⟩ u12) = setW w g o 0 [u0, u1, u2, u3, u4, u5, u6, u7, u8, u9, u10, u11, u12] := rfl
theorem owns_setW {base e size n g c o : Nat} : ∀ (us : List Value) (j : Nat) (w : World) (xs : List Value), w.ownsRow base e size (.slice (some ⟨g, 0, none⟩) n c) n xs → (setW w g o j us).ownsRow base e size (.slice (some ⟨g, 0, none⟩) n c) n (setAt xs o j us)
  | [], _, _, _, h => h
  | u :: us, j, _, _, h => owns_setW us (j + 1) _ _ (ownsRow_setN h (o + j) u)
theorem fr_setW {B g o : Nat} {L : List Nat} {a : World} (hg : B ≤ g ∨ g ∈ L) : ∀ (us : List Value) (j : Nat) (w : World), Fr B L a w → Fr B L a (setW w g o j us)
  | [], _, _, h => h
  | u :: us, j, _, h => fr_setW hg us (j + 1) _ (h.setCell (p := ⟨g, o + j, none⟩) hg u)
/-- What a node's two slices look like. -/
def SlN (m : Ndm) : Prop := ∃ A n c P q d, m.2.1 = .slice A n c ∧ m.2.2 = .slice P q d
set_option maxRecDepth 100000 in
set_option maxHeartbeats 4000000 in
theorem ninsort_any (F : FuncId) (cap : Array Value) (c : Ndm → Ndm → Int) (base g n cp' : Nat) (xs0 : List Ndm) (w : World) (hn : n ≤ 20) (hn0 : 0 < n) (hl : xs0.length = n) (hsl : ∀ m ∈ xs0, SlN m) (hent : ∀ (args : Array Value) (w : World), (callFunc F args).run Tryz.prog w = .ok (.enter F args) w)
    (hF : ∀ (a b : Ndm) (w' : World), a ∈ xs0 → b ∈ xs0 → Fr w.heap.size [g] w w' → Calls Tryz.prog F (#[.agg (ndA a.1 a.2.1 a.2.2), .agg (ndA b.1 b.2.1 b.2.2)] ++ cap) w' fun e w'' => e = .returned (.int .i64 (c a b)) ∧ Fr w'.heap.size [] w' w'')
    (ho : w.ownsRow base 50 13 (.slice (some ⟨g, 0, none⟩) n cp') n (cellsN xs0)) :
    Calls Tryz.prog 156 #[.slice (some ⟨g, 0, none⟩) n cp', .int .i64 0, .int .i64 n, .func (.func F) #[] cap] w fun e w' => ∃ xs, e = .returned (.tuple #[]) ∧ StN c xs0 n n xs ∧ w'.ownsRow base 50 13 (.slice (some ⟨g, 0, none⟩) n cp') n (cellsN xs) ∧ Fr w.heap.size [g] w w' := by
  have HF := Lib.hid hF
  have HO := Lib.hid ho
  have HSL := Lib.hid hsl
  have HL := Lib.hid hl
  have hlt := (ho.lt g rfl).2
  clear hF ho hsl hl
  go_enter Tryz.func156, Tryz.ntmps156
  go_wp2_with fail
  go_loopw [8] (fun s wr => ∃ (i : Nat) (xs : List Ndm), 1 ≤ i ∧ (i ≤ n ∨ i = 1) ∧ s = .int .i64 i ∧ RowKit.Hid (∃ j, StN c xs0 i j xs ∧ j = i) ∧ RowKit.Hid (wr.ownsRow base 50 13 (.slice (some ⟨g, 0, none⟩) n cp') n (cellsN xs)) ∧ RowKit.Hid (Fr w.heap.size [g] w wr)) (fun s _ => n - (intOf s).toNat)
  case atStart => exact ⟨1, xs0, by omega, .inr rfl, rfl, ⟨1, .start, rfl⟩, HO, Fr.refl _ _ _⟩
  case round =>
    obtain ⟨i, xs, hi1, hin, rfl, HS, HR, HG⟩ := hrel
    by_cases hilt : i < n
    · go_wp2_with fail
      go_loopw [9] (fun s wr => ∃ (j : Nat) (xs : List Ndm), j ≤ i ∧ s = .int .i64 j ∧ RowKit.Hid (StN c xs0 i j xs) ∧ RowKit.Hid (wr.ownsRow base 50 13 (.slice (some ⟨g, 0, none⟩) n cp') n (cellsN xs)) ∧ RowKit.Hid (Fr w.heap.size [g] w wr)) (fun s _ => (intOf s).toNat)
      case atStart =>
        obtain ⟨j, hj, rfl⟩ := HS.out
        exact ⟨_, xs, Nat.le_refl _, rfl, hj, HR, HG⟩
      case round =>
        obtain ⟨j, ys, hji, rfl, HSj, HRj, HGj⟩ := hrel
        have hyl : ys.length = n := by rw [HSj.out.len, HL.out]
        have HYL := Lib.hid hyl
        clear hyl
        by_cases hj0 : 0 < j
        · obtain ⟨k, rfl⟩ : ∃ k, j = k + 1 := ⟨j - 1, by omega⟩
          obtain ⟨a, ha⟩ : ∃ a, ys[k + 1]? = some a := ⟨_, List.getElem?_eq_getElem (by rw [HYL.out]; omega)⟩
          obtain ⟨b, hb⟩ : ∃ b, ys[k]? = some b := ⟨_, List.getElem?_eq_getElem (by rw [HYL.out]; omega)⟩
          have ma : a ∈ xs0 := HSj.out.mem _ (List.mem_of_getElem? ha)
          have mb : b ∈ xs0 := HSj.out.mem _ (List.mem_of_getElem? hb)
          obtain ⟨Af, nf, cf, Ap, np, cp, ea1, ea2⟩ := HSL.out a ma
          obtain ⟨Bf, mf, df, Bp, mp, dp, eb1, eb2⟩ := HSL.out b mb
          obtain ⟨x, sfa, spa⟩ := a
          obtain ⟨y, sfb, spb⟩ := b
          simp only at ea1 ea2 eb1 eb2
          subst ea1
          subst ea2
          subst eb1
          subst eb2
          have HA := Lib.hid ha
          have HB := Lib.hid hb
          obtain ⟨cv, hcv⟩ : ∃ v, v = c (x, .slice Af nf cf, .slice Ap np cp) (y, .slice Bf mf df, .slice Bp mp dp) := ⟨_, rfl⟩
          have HCV := Lib.hid hcv
          have HC := Lib.hid (fun (wx : World) (h : Fr w.heap.size [g] w wx) => (by rw [hcv]; exact HF.out _ _ wx ma mb h : Calls Tryz.prog F (#[.agg (ndA x (.slice Af nf cf) (.slice Ap np cp)), .agg (ndA y (.slice Bf mf df) (.slice Bp mp dp))] ++ cap) wx fun e w'' => e = .returned (.int .i64 cv) ∧ Fr wx.heap.size [] wx w''))
          clear ha hb ma mb hcv
          have hk1 : ((k : Int) + 1) < (n : Int) := by omega
          have hk2 : (k : Int) < (n : Int) := by omega
          have hk3 : (0 : Int) ≤ (k : Int) := by omega
          have hk4 : (0 : Int) ≤ (k : Int) + 1 := by omega
          have hw1 : IntKind.i64.wrap (k : Int) = (k : Int) := by rw [IntKind.wrap_i64]; omega
          have hw2 : IntKind.i64.wrap ((k : Int) + 1 - 1) = (k : Int) := by rw [IntKind.wrap_i64]; omega
          have INV : RowKit.Hid (wr.drew.ownsRow base 50 13 (.slice (some ⟨g, 0, none⟩) n cp') n (cellsN ys) ∧ Fr w.heap.size [g] w wr.drew) := ⟨HRj.out, HGj.out.drew⟩
          by_cases hc : cv < 0
          · go_wp2_with fail
            go_region_held3 (fun wx => wx.cell? ⟨g, (k + 1) * 13, none⟩ = some (.int .i64 x.id) ∧ wx.cell? ⟨g, (k + 1) * 13 + 1, none⟩ = some (.int .i64 x.kind) ∧ wx.cell? ⟨g, (k + 1) * 13 + 2, none⟩ = some (.slice Af nf cf) ∧ wx.cell? ⟨g, (k + 1) * 13 + 3, none⟩ = some (.slice Ap np cp) ∧ wx.cell? ⟨g, (k + 1) * 13 + 4, none⟩ = some (.int .i64 x.par) ∧ wx.cell? ⟨g, (k + 1) * 13 + 5, none⟩ = some (.int .i64 (x.rt 0)) ∧ wx.cell? ⟨g, (k + 1) * 13 + 6, none⟩ = some (.int .i64 (x.rt 1)) ∧ wx.cell? ⟨g, (k + 1) * 13 + 7, none⟩ = some (.int .i64 (x.rt 2)) ∧ wx.cell? ⟨g, (k + 1) * 13 + 8, none⟩ = some (.int .i64 (x.rt 3)) ∧ wx.cell? ⟨g, (k + 1) * 13 + 9, none⟩ = some (.int .i64 (x.rt 4)) ∧ wx.cell? ⟨g, (k + 1) * 13 + 10, none⟩ = some (.int .i64 (x.rt 5)) ∧ wx.cell? ⟨g, (k + 1) * 13 + 11, none⟩ = some (.int .i64 (x.rt 6)) ∧ wx.cell? ⟨g, (k + 1) * 13 + 12, none⟩ = some (.int .i64 (x.rt 7)) ∧ wx.cell? ⟨g, k * 13, none⟩ = some (.int .i64 y.id) ∧ wx.cell? ⟨g, k * 13 + 1, none⟩ = some (.int .i64 y.kind) ∧ wx.cell? ⟨g, k * 13 + 2, none⟩ = some (.slice Bf mf df) ∧ wx.cell? ⟨g, k * 13 + 3, none⟩ = some (.slice Bp mp dp) ∧ wx.cell? ⟨g, k * 13 + 4, none⟩ = some (.int .i64 y.par) ∧ wx.cell? ⟨g, k * 13 + 5, none⟩ = some (.int .i64 (y.rt 0)) ∧ wx.cell? ⟨g, k * 13 + 6, none⟩ = some (.int .i64 (y.rt 1)) ∧ wx.cell? ⟨g, k * 13 + 7, none⟩ = some (.int .i64 (y.rt 2)) ∧ wx.cell? ⟨g, k * 13 + 8, none⟩ = some (.int .i64 (y.rt 3)) ∧ wx.cell? ⟨g, k * 13 + 9, none⟩ = some (.int .i64 (y.rt 4)) ∧ wx.cell? ⟨g, k * 13 + 10, none⟩ = some (.int .i64 (y.rt 5)) ∧ wx.cell? ⟨g, k * 13 + 11, none⟩ = some (.int .i64 (y.rt 6)) ∧ wx.cell? ⟨g, k * 13 + 12, none⟩ = some (.int .i64 (y.rt 7))) (exact ⟨nd_cell INV.out.1 HA.out 0 _ rfl, nd_cell INV.out.1 HA.out 1 _ rfl, nd_cell INV.out.1 HA.out 2 _ rfl, nd_cell INV.out.1 HA.out 3 _ rfl, nd_cell INV.out.1 HA.out 4 _ rfl, nd_cell INV.out.1 HA.out 5 _ rfl, nd_cell INV.out.1 HA.out 6 _ rfl, nd_cell INV.out.1 HA.out 7 _ rfl, nd_cell INV.out.1 HA.out 8 _ rfl, nd_cell INV.out.1 HA.out 9 _ rfl, nd_cell INV.out.1 HA.out 10 _ rfl, nd_cell INV.out.1 HA.out 11 _ rfl, nd_cell INV.out.1 HA.out 12 _ rfl, nd_cell INV.out.1 HB.out 0 _ rfl, nd_cell INV.out.1 HB.out 1 _ rfl, nd_cell INV.out.1 HB.out 2 _ rfl, nd_cell INV.out.1 HB.out 3 _ rfl, nd_cell INV.out.1 HB.out 4 _ rfl, nd_cell INV.out.1 HB.out 5 _ rfl, nd_cell INV.out.1 HB.out 6 _ rfl, nd_cell INV.out.1 HB.out 7 _ rfl, nd_cell INV.out.1 HB.out 8 _ rfl, nd_cell INV.out.1 HB.out 9 _ rfl, nd_cell INV.out.1 HB.out 10 _ rfl, nd_cell INV.out.1 HB.out 11 _ rfl, nd_cell INV.out.1 HB.out 12 _ rfl⟩)
              ((refine (HC.out _ INV.out.2).mono ?_; rintro e w4 ⟨rfl, f4⟩; have INV : RowKit.Hid (w4.ownsRow base 50 13 (.slice (some ⟨g, 0, none⟩) n cp') n (cellsN ys) ∧ Fr w.heap.size [g] w w4) := ⟨ownsRow_fr INV.out.1 f4 (fun q hq => ⟨(INV.out.1.lt q hq).2, by simp⟩), INV.out.2.trans (f4.mono INV.out.2.size (by simp))⟩; clear f4))
            all_goals
              obtain ⟨pa0, pa1, pa2, pa3, pa4, pa5, pa6, pa7, pa8, pa9, pa10, pa11, pa12, pb0, pb1, pb2, pb3, pb4, pb5, pb6, pb7, pb8, pb9, pb10, pb11, pb12⟩ := (⟨nd_cell INV.out.1 HA.out 0 _ rfl, nd_cell INV.out.1 HA.out 1 _ rfl, nd_cell INV.out.1 HA.out 2 _ rfl, nd_cell INV.out.1 HA.out 3 _ rfl, nd_cell INV.out.1 HA.out 4 _ rfl, nd_cell INV.out.1 HA.out 5 _ rfl, nd_cell INV.out.1 HA.out 6 _ rfl, nd_cell INV.out.1 HA.out 7 _ rfl, nd_cell INV.out.1 HA.out 8 _ rfl, nd_cell INV.out.1 HA.out 9 _ rfl, nd_cell INV.out.1 HA.out 10 _ rfl, nd_cell INV.out.1 HA.out 11 _ rfl, nd_cell INV.out.1 HA.out 12 _ rfl, nd_cell INV.out.1 HB.out 0 _ rfl, nd_cell INV.out.1 HB.out 1 _ rfl, nd_cell INV.out.1 HB.out 2 _ rfl, nd_cell INV.out.1 HB.out 3 _ rfl, nd_cell INV.out.1 HB.out 4 _ rfl, nd_cell INV.out.1 HB.out 5 _ rfl, nd_cell INV.out.1 HB.out 6 _ rfl, nd_cell INV.out.1 HB.out 7 _ rfl, nd_cell INV.out.1 HB.out 8 _ rfl, nd_cell INV.out.1 HB.out 9 _ rfl, nd_cell INV.out.1 HB.out 10 _ rfl, nd_cell INV.out.1 HB.out 11 _ rfl, nd_cell INV.out.1 HB.out 12 _ rfl⟩ : w4.cell? ⟨g, (k + 1) * 13, none⟩ = some (.int .i64 x.id) ∧ w4.cell? ⟨g, (k + 1) * 13 + 1, none⟩ = some (.int .i64 x.kind) ∧ w4.cell? ⟨g, (k + 1) * 13 + 2, none⟩ = some (.slice Af nf cf) ∧ w4.cell? ⟨g, (k + 1) * 13 + 3, none⟩ = some (.slice Ap np cp) ∧ w4.cell? ⟨g, (k + 1) * 13 + 4, none⟩ = some (.int .i64 x.par) ∧ w4.cell? ⟨g, (k + 1) * 13 + 5, none⟩ = some (.int .i64 (x.rt 0)) ∧ w4.cell? ⟨g, (k + 1) * 13 + 6, none⟩ = some (.int .i64 (x.rt 1)) ∧ w4.cell? ⟨g, (k + 1) * 13 + 7, none⟩ = some (.int .i64 (x.rt 2)) ∧ w4.cell? ⟨g, (k + 1) * 13 + 8, none⟩ = some (.int .i64 (x.rt 3)) ∧ w4.cell? ⟨g, (k + 1) * 13 + 9, none⟩ = some (.int .i64 (x.rt 4)) ∧ w4.cell? ⟨g, (k + 1) * 13 + 10, none⟩ = some (.int .i64 (x.rt 5)) ∧ w4.cell? ⟨g, (k + 1) * 13 + 11, none⟩ = some (.int .i64 (x.rt 6)) ∧ w4.cell? ⟨g, (k + 1) * 13 + 12, none⟩ = some (.int .i64 (x.rt 7)) ∧ w4.cell? ⟨g, k * 13, none⟩ = some (.int .i64 y.id) ∧ w4.cell? ⟨g, k * 13 + 1, none⟩ = some (.int .i64 y.kind) ∧ w4.cell? ⟨g, k * 13 + 2, none⟩ = some (.slice Bf mf df) ∧ w4.cell? ⟨g, k * 13 + 3, none⟩ = some (.slice Bp mp dp) ∧ w4.cell? ⟨g, k * 13 + 4, none⟩ = some (.int .i64 y.par) ∧ w4.cell? ⟨g, k * 13 + 5, none⟩ = some (.int .i64 (y.rt 0)) ∧ w4.cell? ⟨g, k * 13 + 6, none⟩ = some (.int .i64 (y.rt 1)) ∧ w4.cell? ⟨g, k * 13 + 7, none⟩ = some (.int .i64 (y.rt 2)) ∧ w4.cell? ⟨g, k * 13 + 8, none⟩ = some (.int .i64 (y.rt 3)) ∧ w4.cell? ⟨g, k * 13 + 9, none⟩ = some (.int .i64 (y.rt 4)) ∧ w4.cell? ⟨g, k * 13 + 10, none⟩ = some (.int .i64 (y.rt 5)) ∧ w4.cell? ⟨g, k * 13 + 11, none⟩ = some (.int .i64 (y.rt 6)) ∧ w4.cell? ⟨g, k * 13 + 12, none⟩ = some (.int .i64 (y.rt 7)))
              have za0 := INV.out.1.frozenAt ((k + 1) * 13)
              have zb0 := INV.out.1.frozenAt (k * 13)
              have za1 := INV.out.1.frozenAt ((k + 1) * 13 + 1)
              have zb1 := INV.out.1.frozenAt (k * 13 + 1)
              have za2 := INV.out.1.frozenAt ((k + 1) * 13 + 2)
              have zb2 := INV.out.1.frozenAt (k * 13 + 2)
              have za3 := INV.out.1.frozenAt ((k + 1) * 13 + 3)
              have zb3 := INV.out.1.frozenAt (k * 13 + 3)
              have za4 := INV.out.1.frozenAt ((k + 1) * 13 + 4)
              have zb4 := INV.out.1.frozenAt (k * 13 + 4)
              have za5 := INV.out.1.frozenAt ((k + 1) * 13 + 5)
              have zb5 := INV.out.1.frozenAt (k * 13 + 5)
              have za6 := INV.out.1.frozenAt ((k + 1) * 13 + 6)
              have zb6 := INV.out.1.frozenAt (k * 13 + 6)
              have za7 := INV.out.1.frozenAt ((k + 1) * 13 + 7)
              have zb7 := INV.out.1.frozenAt (k * 13 + 7)
              have za8 := INV.out.1.frozenAt ((k + 1) * 13 + 8)
              have zb8 := INV.out.1.frozenAt (k * 13 + 8)
              have za9 := INV.out.1.frozenAt ((k + 1) * 13 + 9)
              have zb9 := INV.out.1.frozenAt (k * 13 + 9)
              have za10 := INV.out.1.frozenAt ((k + 1) * 13 + 10)
              have zb10 := INV.out.1.frozenAt (k * 13 + 10)
              have za11 := INV.out.1.frozenAt ((k + 1) * 13 + 11)
              have zb11 := INV.out.1.frozenAt (k * 13 + 11)
              have za12 := INV.out.1.frozenAt ((k + 1) * 13 + 12)
              have zb12 := INV.out.1.frozenAt (k * 13 + 12)
              go_wp2_with fail
              go_region
              all_goals
                go_wp2_with fail
                go_roundw
                case rel =>
                  refine ⟨k, (ys.set (k + 1) (y, .slice Bf mf df, .slice Bp mp dp)).set k (x, .slice Af nf cf, .slice Ap np cp), by omega, by go_num, Lib.hid (StN.swap HSj.out HA.out HB.out (by rw [← HCV.out]; exact hc)), ?_, ?_⟩
                  · show World.ownsRow _ _ _ _ _ _ _
                    rw [cellsN_set _ _ _ (by rw [List.length_set, HYL.out]; omega), cellsN_set _ _ _ (by rw [HYL.out]; omega)]
                    have e1 := owns_setW (o := (k + 1) * 13) [.int .i64 y.id, .int .i64 y.kind, .slice Bf mf df, .slice Bp mp dp, .int .i64 y.par, .int .i64 (y.rt 0), .int .i64 (y.rt 1), .int .i64 (y.rt 2), .int .i64 (y.rt 3), .int .i64 (y.rt 4), .int .i64 (y.rt 5), .int .i64 (y.rt 6), .int .i64 (y.rt 7)] 0 w4 _ INV.out.1
                    rw [← nest_nd] at e1
                    have e2 := owns_setW (o := k * 13) [.int .i64 x.id, .int .i64 x.kind, .slice Af nf cf, .slice Ap np cp, .int .i64 x.par, .int .i64 (x.rt 0), .int .i64 (x.rt 1), .int .i64 (x.rt 2), .int .i64 (x.rt 3), .int .i64 (x.rt 4), .int .i64 (x.rt 5), .int .i64 (x.rt 6), .int .i64 (x.rt 7)] 0 _ _ e1
                    rw [← nest_nd] at e2
                    have e3 := ownsRow_fr e2 (Fr.refl _ [] _).drew (fun q hq => ⟨(e2.lt q hq).2, by simp⟩)
                    have hb2 : ndL (y, .slice Bf mf df, .slice Bp mp dp) = [.int .i64 y.id, .int .i64 y.kind, .slice Bf mf df, .slice Bp mp dp, .int .i64 y.par, .int .i64 (y.rt 0), .int .i64 (y.rt 1), .int .i64 (y.rt 2), .int .i64 (y.rt 3), .int .i64 (y.rt 4), .int .i64 (y.rt 5), .int .i64 (y.rt 6), .int .i64 (y.rt 7)] := rfl
                    have ha2 : ndL (x, .slice Af nf cf, .slice Ap np cp) = [.int .i64 x.id, .int .i64 x.kind, .slice Af nf cf, .slice Ap np cp, .int .i64 x.par, .int .i64 (x.rt 0), .int .i64 (x.rt 1), .int .i64 (x.rt 2), .int .i64 (x.rt 3), .int .i64 (x.rt 4), .int .i64 (x.rt 5), .int .i64 (x.rt 6), .int .i64 (x.rt 7)] := rfl
                    rw [hb2, ha2]
                    exact e3
                  · have e1 := fr_setW (B := w.heap.size) (L := [g]) (g := g) (o := (k + 1) * 13) (.inr (by simp)) [.int .i64 y.id, .int .i64 y.kind, .slice Bf mf df, .slice Bp mp dp, .int .i64 y.par, .int .i64 (y.rt 0), .int .i64 (y.rt 1), .int .i64 (y.rt 2), .int .i64 (y.rt 3), .int .i64 (y.rt 4), .int .i64 (y.rt 5), .int .i64 (y.rt 6), .int .i64 (y.rt 7)] 0 w4 INV.out.2
                    rw [← nest_nd] at e1
                    have e2 := fr_setW (B := w.heap.size) (L := [g]) (g := g) (o := k * 13) (.inr (by simp)) [.int .i64 x.id, .int .i64 x.kind, .slice Af nf cf, .slice Ap np cp, .int .i64 x.par, .int .i64 (x.rt 0), .int .i64 (x.rt 1), .int .i64 (x.rt 2), .int .i64 (x.rt 3), .int .i64 (x.rt 4), .int .i64 (x.rt 5), .int .i64 (x.rt 6), .int .i64 (x.rt 7)] 0 _ e1
                    rw [← nest_nd] at e2
                    exact e2.drew
                case measure => simp [intOf]
          · go_wp2_with fail
            go_region_held3 (fun wx => wx.cell? ⟨g, (k + 1) * 13, none⟩ = some (.int .i64 x.id) ∧ wx.cell? ⟨g, (k + 1) * 13 + 1, none⟩ = some (.int .i64 x.kind) ∧ wx.cell? ⟨g, (k + 1) * 13 + 2, none⟩ = some (.slice Af nf cf) ∧ wx.cell? ⟨g, (k + 1) * 13 + 3, none⟩ = some (.slice Ap np cp) ∧ wx.cell? ⟨g, (k + 1) * 13 + 4, none⟩ = some (.int .i64 x.par) ∧ wx.cell? ⟨g, (k + 1) * 13 + 5, none⟩ = some (.int .i64 (x.rt 0)) ∧ wx.cell? ⟨g, (k + 1) * 13 + 6, none⟩ = some (.int .i64 (x.rt 1)) ∧ wx.cell? ⟨g, (k + 1) * 13 + 7, none⟩ = some (.int .i64 (x.rt 2)) ∧ wx.cell? ⟨g, (k + 1) * 13 + 8, none⟩ = some (.int .i64 (x.rt 3)) ∧ wx.cell? ⟨g, (k + 1) * 13 + 9, none⟩ = some (.int .i64 (x.rt 4)) ∧ wx.cell? ⟨g, (k + 1) * 13 + 10, none⟩ = some (.int .i64 (x.rt 5)) ∧ wx.cell? ⟨g, (k + 1) * 13 + 11, none⟩ = some (.int .i64 (x.rt 6)) ∧ wx.cell? ⟨g, (k + 1) * 13 + 12, none⟩ = some (.int .i64 (x.rt 7)) ∧ wx.cell? ⟨g, k * 13, none⟩ = some (.int .i64 y.id) ∧ wx.cell? ⟨g, k * 13 + 1, none⟩ = some (.int .i64 y.kind) ∧ wx.cell? ⟨g, k * 13 + 2, none⟩ = some (.slice Bf mf df) ∧ wx.cell? ⟨g, k * 13 + 3, none⟩ = some (.slice Bp mp dp) ∧ wx.cell? ⟨g, k * 13 + 4, none⟩ = some (.int .i64 y.par) ∧ wx.cell? ⟨g, k * 13 + 5, none⟩ = some (.int .i64 (y.rt 0)) ∧ wx.cell? ⟨g, k * 13 + 6, none⟩ = some (.int .i64 (y.rt 1)) ∧ wx.cell? ⟨g, k * 13 + 7, none⟩ = some (.int .i64 (y.rt 2)) ∧ wx.cell? ⟨g, k * 13 + 8, none⟩ = some (.int .i64 (y.rt 3)) ∧ wx.cell? ⟨g, k * 13 + 9, none⟩ = some (.int .i64 (y.rt 4)) ∧ wx.cell? ⟨g, k * 13 + 10, none⟩ = some (.int .i64 (y.rt 5)) ∧ wx.cell? ⟨g, k * 13 + 11, none⟩ = some (.int .i64 (y.rt 6)) ∧ wx.cell? ⟨g, k * 13 + 12, none⟩ = some (.int .i64 (y.rt 7))) (exact ⟨nd_cell INV.out.1 HA.out 0 _ rfl, nd_cell INV.out.1 HA.out 1 _ rfl, nd_cell INV.out.1 HA.out 2 _ rfl, nd_cell INV.out.1 HA.out 3 _ rfl, nd_cell INV.out.1 HA.out 4 _ rfl, nd_cell INV.out.1 HA.out 5 _ rfl, nd_cell INV.out.1 HA.out 6 _ rfl, nd_cell INV.out.1 HA.out 7 _ rfl, nd_cell INV.out.1 HA.out 8 _ rfl, nd_cell INV.out.1 HA.out 9 _ rfl, nd_cell INV.out.1 HA.out 10 _ rfl, nd_cell INV.out.1 HA.out 11 _ rfl, nd_cell INV.out.1 HA.out 12 _ rfl, nd_cell INV.out.1 HB.out 0 _ rfl, nd_cell INV.out.1 HB.out 1 _ rfl, nd_cell INV.out.1 HB.out 2 _ rfl, nd_cell INV.out.1 HB.out 3 _ rfl, nd_cell INV.out.1 HB.out 4 _ rfl, nd_cell INV.out.1 HB.out 5 _ rfl, nd_cell INV.out.1 HB.out 6 _ rfl, nd_cell INV.out.1 HB.out 7 _ rfl, nd_cell INV.out.1 HB.out 8 _ rfl, nd_cell INV.out.1 HB.out 9 _ rfl, nd_cell INV.out.1 HB.out 10 _ rfl, nd_cell INV.out.1 HB.out 11 _ rfl, nd_cell INV.out.1 HB.out 12 _ rfl⟩)
              ((refine (HC.out _ INV.out.2).mono ?_; rintro e w4 ⟨rfl, f4⟩; have INV : RowKit.Hid (w4.ownsRow base 50 13 (.slice (some ⟨g, 0, none⟩) n cp') n (cellsN ys) ∧ Fr w.heap.size [g] w w4) := ⟨ownsRow_fr INV.out.1 f4 (fun q hq => ⟨(INV.out.1.lt q hq).2, by simp⟩), INV.out.2.trans (f4.mono INV.out.2.size (by simp))⟩; clear f4))
            all_goals
              go_wp2_with fail
              go_roundw
              case rel => exact ⟨i + 1, ys, by omega, .inl (by omega), by go_num, ⟨i + 1, StN.next HSj.out (.inr ⟨k, _, _, rfl, HA.out, HB.out, by rw [← HCV.out]; omega⟩), rfl⟩, INV.out.1, INV.out.2⟩
              case measure => simp [intOf]; omega
        · obtain rfl : j = 0 := by omega
          go_wp2_with fail
          go_quiet (fail)
          go_wp2_with fail
          go_roundw
          case rel => exact ⟨i + 1, ys, by omega, .inl (by omega), by go_num, ⟨i + 1, StN.next HSj.out (.inl rfl), rfl⟩, HRj.out, HGj.out.drewN nq⟩
          case measure => simp [intOf]; omega
    · obtain rfl : i = n := by omega
      obtain ⟨j, hj, rfl⟩ := HS.out
      go_wp2_with fail
      go_end0
      exact ⟨xs, rfl, hj, HR.out, HG.out⟩
end Go.Proofs.YtfakgidimekikaaGreat
