/- AlignMeets: what stands in memory, and its two closures. -/
import Derived.Test.YtkmkdodhahcpdaaMeets
namespace Go.Proofs.Ytkmkdodhahcpdaa
open Go.RowKit Go.Fb
/-- A row of counts. -/
def cellsN (f : Nat → Nat) (N : Nat) : Array Value := ((List.range N).map fun j => Value.int .i64 (f j : Int)).toArray
theorem cellsN_get (f : Nat → Nat) {N c : Nat} (h : c < N) : (cellsN f N)[c]? = some (.int .i64 (f c : Int)) := by simp [cellsN, h]
theorem cellsN_set (f : Nat → Nat) (N c v : Nat) : (cellsN f N).setIfInBounds c (.int .i64 (v : Int)) = cellsN (upd f c v) N := by
  apply Array.ext
  · simp [cellsN]
  · intro j h1 h2
    simp only [cellsN, List.setIfInBounds_toArray, List.getElem_toArray, List.getElem_set, List.getElem_map, List.getElem_range, upd]
    by_cases e : c = j
    · subst e; simp
    · rw [if_neg e, if_neg (Ne.symm e)]
/-- The rows of a list of lists of bools that came in. -/
def Rows2 (w : World) (B : Nat) (A : Option Addr) (N : Nat) (K : Nat → List Bool) : Prop :=
  ∀ c, c < N → ∃ (b off : Nat) (Ac : Option Addr) (cc : Nat), A = some ⟨b, off, none⟩ ∧ b < B ∧ w.cell? ⟨b, off + c, none⟩ = some (.slice Ac (K c).length cc) ∧ (K c).length ≤ cc ∧ cc ≤ maxLen ∧ Reads w B 1 Ac (K c).length ((K c).map Value.bool)
structure MInv (w wr : World) (A : Option Addr) (N cA : Nat) (M : Nat) (g2 g5 gb g ga g13 ge g14 g16 : Nat) (bs : List Bool) (b : Bool) (epo many last : Int) (at_ ep : Nat → Nat) : Prop where
  l2 : Blk wr g2 52 #[.slice A N cA]
  m5 : Blk wr g5 3 #[.int .i64 (M : Int)]
  al : Al wr g gb bs b epo false many last
  ats : Blk wr ga 3 (cellsN at_ N)
  b13 : Blk wr g13 22 #[.slice (some ⟨ga, 0, none⟩) N N]
  eps : Blk wr ge 3 (cellsN ep N)
  b14 : Blk wr g14 22 #[.slice (some ⟨ge, 0, none⟩) N N]
  f16 : Blk wr g16 57 #[.func (.func 30) #[] #[.pointer (some ⟨g13, 0, none⟩), .pointer (some ⟨g2, 0, none⟩), .pointer (some ⟨g14, 0, none⟩), .pointer (some ⟨g5, 0, none⟩)]]
  fr : Fr w.heap.size [] w wr
  ord : w.heap.size ≤ g2 ∧ g2 < g5 ∧ g5 < gb ∧ gb < g ∧ g < ga ∧ ga < g13 ∧ g13 < ge ∧ ge < g14 ∧ g14 < g16
section
variable {w wr wr' : World} {A : Option Addr} {N cA M g2 g5 gb g ga g13 ge g14 g16 : Nat} {bs bs' : List Bool} {b b' : Bool} {epo epo' many many' last last' : Int} {at_ ep : Nat → Nat}
theorem MInv.keep (h : RowKit.Hid (MInv w wr A N cA M g2 g5 gb g ga g13 ge g14 g16 bs b epo many last at_ ep)) (hf : Fr wr.heap.size [] wr wr') : RowKit.Hid (MInv w wr' A N cA M g2 g5 gb g ga g13 ge g14 g16 bs b epo many last at_ ep) := by
  obtain ⟨h1, h2, h3, h4, h5, h6, h7, h8, fr, ord⟩ := h.out
  exact Lib.hid ⟨h1.fr hf h1.lt (by simp), h2.fr hf h2.lt (by simp), h3.fr0 hf, h4.fr hf h4.lt (by simp), h5.fr hf h5.lt (by simp), h6.fr hf h6.lt (by simp), h7.fr hf h7.lt (by simp), h8.fr hf h8.lt (by simp), fr.trans (hf.mono fr.size (by simp)), ord⟩
theorem MInv.turn (h : RowKit.Hid (MInv w wr A N cA M g2 g5 gb g ga g13 ge g14 g16 bs b epo many last at_ ep)) (hf : Fr wr.heap.size [g, gb] wr wr') (ha : Al wr' g gb bs' b' epo' false many' last') : RowKit.Hid (MInv w wr' A N cA M g2 g5 gb g ga g13 ge g14 g16 bs' b' epo' many' last' at_ ep) := by
  obtain ⟨h1, h2, h3, h4, h5, h6, h7, h8, fr, ord⟩ := h.out
  exact Lib.hid ⟨h1.fr hf h1.lt (by simp; omega), h2.fr hf h2.lt (by simp; omega), ha, h4.fr hf h4.lt (by simp; omega), h5.fr hf h5.lt (by simp; omega), h6.fr hf h6.lt (by simp; omega), h7.fr hf h7.lt (by simp; omega), h8.fr hf h8.lt (by simp; omega), fr.trans (hf.mono fr.size (fun k hk hlt => by simp at hk; omega)), ord⟩
theorem MInv.setAt (h : RowKit.Hid (MInv w wr A N cA M g2 g5 gb g ga g13 ge g14 g16 bs b epo many last at_ ep)) (c v : Nat) : RowKit.Hid (MInv w (wr.setCell ⟨ga, c, none⟩ (.int .i64 (v : Int))) A N cA M g2 g5 gb g ga g13 ge g14 g16 bs b epo many last (upd at_ c v) ep) := by
  obtain ⟨h1, h2, h3, h4, h5, h6, h7, h8, fr, ord⟩ := h.out
  have k4 := h4.set_ c (.int .i64 (v : Int))
  rw [cellsN_set] at k4
  exact Lib.hid ⟨h1.far (p := ⟨ga, c, none⟩) (show g2 ≠ ga by omega) _, h2.far (p := ⟨ga, c, none⟩) (show g5 ≠ ga by omega) _, ⟨h3.st.far (p := ⟨ga, c, none⟩) (show g ≠ ga by omega) _, h3.bl.far (p := ⟨ga, c, none⟩) (show gb ≠ ga by omega) _⟩, k4, h5.far (p := ⟨ga, c, none⟩) (show g13 ≠ ga by omega) _, h6.far (p := ⟨ga, c, none⟩) (show ge ≠ ga by omega) _, h7.far (p := ⟨ga, c, none⟩) (show g14 ≠ ga by omega) _, h8.far (p := ⟨ga, c, none⟩) (show g16 ≠ ga by omega) _, fr.setCell (p := ⟨ga, c, none⟩) (.inl (show w.heap.size ≤ ga by omega)) _, ord⟩
theorem MInv.setEp (h : RowKit.Hid (MInv w wr A N cA M g2 g5 gb g ga g13 ge g14 g16 bs b epo many last at_ ep)) (c v : Nat) : RowKit.Hid (MInv w (wr.setCell ⟨ge, c, none⟩ (.int .i64 (v : Int))) A N cA M g2 g5 gb g ga g13 ge g14 g16 bs b epo many last at_ (upd ep c v)) := by
  obtain ⟨h1, h2, h3, h4, h5, h6, h7, h8, fr, ord⟩ := h.out
  have k6 := h6.set_ c (.int .i64 (v : Int))
  rw [cellsN_set] at k6
  exact Lib.hid ⟨h1.far (p := ⟨ge, c, none⟩) (show g2 ≠ ge by omega) _, h2.far (p := ⟨ge, c, none⟩) (show g5 ≠ ge by omega) _, ⟨h3.st.far (p := ⟨ge, c, none⟩) (show g ≠ ge by omega) _, h3.bl.far (p := ⟨ge, c, none⟩) (show gb ≠ ge by omega) _⟩, h4.far (p := ⟨ge, c, none⟩) (show ga ≠ ge by omega) _, h5.far (p := ⟨ge, c, none⟩) (show g13 ≠ ge by omega) _, k6, h7.far (p := ⟨ge, c, none⟩) (show g14 ≠ ge by omega) _, h8.far (p := ⟨ge, c, none⟩) (show g16 ≠ ge by omega) _, fr.setCell (p := ⟨ge, c, none⟩) (.inl (show w.heap.size ≤ ge by omega)) _, ord⟩
set_option maxRecDepth 100000 in
theorem item_any {K : Nat → List Bool} (INV : RowKit.Hid (MInv w wr A N cA M g2 g5 gb g ga g13 ge g14 g16 bs b epo many last at_ ep)) (hr : Rows2 w w.heap.size A N K) (c : Nat) (hc : c < N) (hM : (K c).count true ≤ M) (hep : ep c = epc (K c) (at_ c)) :
    Calls Try.prog 30 #[.int .i64 c, .pointer (some ⟨g13, 0, none⟩), .pointer (some ⟨g2, 0, none⟩), .pointer (some ⟨g14, 0, none⟩), .pointer (some ⟨g5, 0, none⟩)] wr fun e w' => e = .returned (.tuple #[.bool (barC K at_ c), .bool (isC K M at_ c)]) ∧ Fr wr.heap.size [] wr w' := by
  obtain ⟨bb, off, Ac, cc, rfl, hbb, hcell, hlc, _hcm, hrd⟩ := hr c hc
  have hcell' := (INV.out.fr.cell (p := ⟨bb, off + c, none⟩) hbb (by simp)).trans hcell
  have k2 := INV.out.l2.cell 0
  have k5 := INV.out.m5.cell 0
  have k13 := INV.out.b13.cell 0
  have k14 := INV.out.b14.cell 0
  have ka := INV.out.ats.cell c
  rw [cellsN_get at_ hc] at ka
  have ke := INV.out.eps.cell c
  rw [cellsN_get ep hc] at ke
  have hci : (c : Int) < (N : Int) := by omega
  by_cases hlt : at_ c < (K c).length
  · obtain ⟨x, hx⟩ := bs_some hlt
    have hb : barC K at_ c = x := by simp [barC, hx]
    have hi : isC K M at_ c = true := by unfold isC tot; exact decide_eq_true (by omega)
    rw [hb, hi]
    obtain ⟨b2, o2, u, rfl, hb2, hu, hcl⟩ := (hrd.fr INV.out.fr (Nat.le_refl _) (by simp)).one hlt
    rw [List.getElem?_map, hx] at hu
    injection hu with hu
    subst hu
    have hai : (at_ c : Int) < ((K c).length : Int) := by omega
    clear hx hb hi hrd hep hM hcell INV
    generalize (K c).length = n at *
    generalize at_ c = a at *
    clear hr
    go_enter Try.func30, Try.ntmps30
    go_wp2_with fail
    go_quiet (fail)
    go_wp2_with fail
    go_quiet (fail)
    go_wp2_with fail
    go_ret2
    exact ⟨rfl, ((Fr.refl _ _ _).drewN _).drewN _⟩
  · have hb : barC K at_ c = true := by simp [barC, List.getElem?_eq_none (Nat.le_of_not_lt hlt)]
    have hi : isC K M at_ c = decide ((ep c : Int) < (M : Int)) := by
      have := is_iff hM (Nat.le_of_not_lt hlt)
      rw [← hep] at this
      unfold isC
      simp [← this]
    rw [hb, hi]
    have hai : ¬ (at_ c : Int) < ((K c).length : Int) := by omega
    clear hb hi hrd hep hM hcell INV
    generalize (K c).length = n at *
    generalize at_ c = a at *
    generalize ep c = q at *
    clear hr
    go_enter Try.func30, Try.ntmps30
    go_wp2_with fail
    go_quiet (fail)
    go_wp2_with fail
    go_quiet (fail)
    go_wp2_with fail
    go_ret2
    exact ⟨by simp, ((Fr.refl _ _ _).drewN _).drewN _⟩
/-- May the channel be picked by the mask? -/
def maskB (mk : Int) (c : Nat) : Bool := bits BinOp.and IntKind.i64 (mk / 2 ^ c) 1 == 1
theorem maskB_full : ∀ c, c < 6 → maskB 255 c = true
  | 0, _ => by decide +kernel
  | 1, _ => by decide +kernel
  | 2, _ => by decide +kernel
  | 3, _ => by decide +kernel
  | 4, _ => by decide +kernel
  | 5, _ => by decide +kernel
  | c + 6, h => by omega
set_option maxRecDepth 100000 in
theorem has_any {K : Nat → List Bool} (INV : RowKit.Hid (MInv w wr A N cA M g2 g5 gb g ga g13 ge g14 g16 bs b epo many last at_ ep)) (hr : Rows2 w w.heap.size A N K) (c : Nat) (hc : c < N) (hM : (K c).count true ≤ M) (hep : ep c = epc (K c) (at_ c)) (mk : Int) (g18 : Nat) (h18 : Blk wr g18 3 #[.int .i64 mk]) (hN : N ≤ 6) :
    Calls Try.prog 32 #[.int .i64 c, .pointer (some ⟨g16, 0, none⟩), .pointer (some ⟨g18, 0, none⟩)] wr fun e w' => e = .returned (.bool (isC K M at_ c && maskB mk c)) ∧ Fr wr.heap.size [] wr w' := by
  have HIT := Lib.hid (item_any INV hr c hc hM hep)
  have k16 := INV.out.f16.cell 0
  have H18 := Lib.hid h18
  have hent : ∀ (args : Array Value) (w : World), (callFunc 30 args).run Try.prog w = .ok (.enter 30 args) w := fun args w => by kernel_rfl
  generalize isC K M at_ c = y at HIT ⊢
  clear h18 hep hM hr
  go_enter Try.func32, Try.ntmps32
  go_wp2_with fail
  refine HIT.out.mono ?_
  rintro e w1 ⟨rfl, hf⟩
  have hm := (H18.out.fr hf H18.out.lt (by simp)).cell 0
  have z1 := hf.size
  have HF := Lib.hid hf
  clear hf k16
  cases y with
  | false =>
    go_wp2_with fail
    go_ret
    exact ⟨rfl, HF.out⟩
  | true =>
    go_wp2_with fail
    go_ret
    exact ⟨rfl, HF.out⟩
end
end Go.Proofs.Ytkmkdodhahcpdaa
