/- A source with one to three partitions: its memory, and New. -/
import Derived.Test.YtdkdhhfejbecdaaSrcB
import Derived.Deep.RegionHeld3
namespace Go.Proofs.Ytdkdhhfejbecdaa
open Go.RowKit Go.Fb
/-- The cells of the partitions, nothing of which was read. -/
def ptC (P : Nat) (V : Nat → Value) : Array Value := if P = 1 then #[V 0, .int .i64 0] else if P = 2 then #[V 0, .int .i64 0, V 1, .int .i64 0] else #[V 0, .int .i64 0, V 1, .int .i64 0, V 2, .int .i64 0]
theorem p3 {P : Nat} (h1 : 1 ≤ P) (h3 : P ≤ 3) : P = 1 ∨ P = 2 ∨ P = 3 := by omega
theorem ptC_get {P i : Nat} {V : Nat → Value} (h3 : P ≤ 3) (hi : i < P) : (ptC P V)[i * 2]? = some (V i) ∧ (ptC P V)[i * 2 + 1]? = some (.int .i64 0) := by
  rcases p3 (by omega) h3 with rfl | rfl | rfl
  · obtain rfl : i = 0 := by omega
    exact ⟨rfl, rfl⟩
  · rcases (show i = 0 ∨ i = 1 by omega) with rfl | rfl <;> exact ⟨rfl, rfl⟩
  · rcases (show i = 0 ∨ i = 1 ∨ i = 2 by omega) with rfl | rfl | rfl <;> exact ⟨rfl, rfl⟩
def updV (V : Nat → Value) (i : Nat) (v : Value) (j : Nat) : Value := if j = i then v else V j
theorem ptC_set {P i : Nat} {V : Nat → Value} (h3 : P ≤ 3) (hi : i < P) (v : Value) : (ptC P V).setIfInBounds (i * 2) v = ptC P (updV V i v) := by
  rcases p3 (by omega) h3 with rfl | rfl | rfl
  · obtain rfl : i = 0 := by omega
    rfl
  · rcases (show i = 0 ∨ i = 1 by omega) with rfl | rfl <;> rfl
  · rcases (show i = 0 ∨ i = 1 ∨ i = 2 by omega) with rfl | rfl | rfl <;> rfl
def srcR (r : Nat → Int) (gp P : Nat) : Array Value := #[.int .i64 (r 0), .int .i64 (r 1), .int .i64 (r 2), .int .i64 (r 3), .int .i64 (r 4), .int .i64 (r 5), .int .i64 (r 6), .int .i64 (r 7), .slice (some ⟨gp, 0, none⟩) P P]
/-- A source: its partitions' lists. -/
structure Sp (base gs gp P : Nat) (r : Nat → Int) (R : Nat → List (Nat → Int)) (V : Nat → Value) (w : World) : Prop where
  pos : 1 ≤ P ∧ P ≤ 3
  st : Blk w gs 114 (srcR r gp P)
  pt : Blk w gp 118 (ptC P V)
  own : ∀ i, i < P → w.ownsRow base 64 3 (V i) (R i).length (cellsR (R i))
  sep : ∀ i j, i < P → j < P → i ≠ j → (V i).ownBlock = none ∨ (V i).ownBlock ≠ (V j).ownBlock
  low : base ≤ gs ∧ base ≤ gp
section
variable {base gs gp P : Nat} {r : Nat → Int} {R : Nat → List (Nat → Int)} {V : Nat → Value} {w w' : World}
theorem Sp.ne (h : Sp base gs gp P r R V w) : gs ≠ gp := h.st.ne_ h.pt (by decide)
theorem Sp.ngs (h : Sp base gs gp P r R V w) {i : Nat} (hi : i < P) : some gs ≠ (V i).ownBlock := h.st.ne_own (h.own i hi) (by decide)
theorem Sp.ngp (h : Sp base gs gp P r R V w) {i : Nat} (hi : i < P) : some gp ≠ (V i).ownBlock := h.pt.ne_own (h.own i hi) (by decide)
theorem Sp.keep (h : Sp base gs gp P r R V w) (hf : Fr w.heap.size [] w w') : Sp base gs gp P r R V w' :=
  ⟨h.pos, h.st.fr hf h.st.lt (by simp), h.pt.fr hf h.pt.lt (by simp), fun i hi => ownsRow_fr (h.own i hi) hf (fun q hq => ⟨((h.own i hi).lt q hq).2, by simp⟩), h.sep, h.low⟩
end
def noV (_ : Nat) : Value := .slice none 0 0
def noR (_ : Nat) : List (Nat → Int) := []
theorem mkparts {P : Nat} (h1 : 1 ≤ P) (h3 : P ≤ 3) (W : World) : (Instr.makeSlice 112 (.int .i64 (P : Nat)) (.int .i64 (P : Nat))).run Try.prog W = .ok (.slice (some ⟨W.heap.size, 0, none⟩) P P) (W.alloc (.cells (ptC P noV) 118)) := by
  have info : (Try.prog.info? 118).map (fun i => (i.zero, i.size, i.bytes)) = some (some (Value.agg #[.slice none 0 0, .int .i64 0]), 2, 32) := by kernel_rfl
  obtain ⟨i, hi, hz, hsz, hby⟩ := info_parts info
  have hr := run_make (P := Try.prog) W 112 118 i (.agg #[.slice none 0 0, .int .i64 0]) Try.underlying112 hi hz .i64 .i64 (P : Nat) (P : Nat) (by omega) (by omega) (by rw [hby]; omega) (by omega)
  have hmc : madeCells (Value.agg #[.slice none 0 0, .int .i64 0]).cells (((P : Nat) : Int).toNat * i.size) = ptC P noV := by
    rw [hsz, Int.toNat_natCast]
    rcases p3 h1 h3 with rfl | rfl | rfl
    · apply Array.ext
      · simp [size_madeCells, ptC]
      · intro j h1 h2
        have h3 : j < 2 := by simpa [ptC] using h2
        match j, h3 with
        | 0, _ => simp [madeCells, Value.cells, ptC, noV]
        | 1, _ => simp [madeCells, Value.cells, ptC, noV]
    · apply Array.ext
      · simp [size_madeCells, ptC]
      · intro j h1 h2
        have h3 : j < 4 := by simpa [ptC] using h2
        match j, h3 with
        | 0, _ => simp [madeCells, Value.cells, ptC, noV]
        | 1, _ => simp [madeCells, Value.cells, ptC, noV]
        | 2, _ => simp [madeCells, Value.cells, ptC, noV]
        | 3, _ => simp [madeCells, Value.cells, ptC, noV]
    · apply Array.ext
      · simp [size_madeCells, ptC]
      · intro j h1 h2
        have h3 : j < 6 := by simpa [ptC] using h2
        match j, h3 with
        | 0, _ => simp [madeCells, Value.cells, ptC, noV]
        | 1, _ => simp [madeCells, Value.cells, ptC, noV]
        | 2, _ => simp [madeCells, Value.cells, ptC, noV]
        | 3, _ => simp [madeCells, Value.cells, ptC, noV]
        | 4, _ => simp [madeCells, Value.cells, ptC, noV]
        | 5, _ => simp [madeCells, Value.cells, ptC, noV]
  rw [hmc] at hr
  simpa using hr
/-- What New makes of a node. -/
def NewOut (kind par : Int) (r : Nat → Int) (w : World) (e : Ending) (w' : World) : Prop :=
  (kind = 0 ∧ right8 par r = true ∧ ∃ P gs gp : Nat, par = (P : Int) ∧ e = .returned (.tuple #[.pointer (some ⟨gs, 0, none⟩), .int .i64 0]) ∧ Sp w.heap.size gs gp P r noR noV w' ∧ Fr w.heap.size [] w w') ∨
  (¬ (kind = 0 ∧ right8 par r = true) ∧ e = .returned (.tuple #[.pointer none, .int .i64 1]) ∧ Fr w.heap.size [] w w')
abbrev nodeV (id kind par : Int) (u2 u3 : Value) (r : Nat → Int) : Array Value := #[.int .i64 id, .int .i64 kind, u2, u3, .int .i64 par, .int .i64 (r 0), .int .i64 (r 1), .int .i64 (r 2), .int .i64 (r 3), .int .i64 (r 4), .int .i64 (r 5), .int .i64 (r 6), .int .i64 (r 7)]
set_option maxRecDepth 100000 in
theorem snew_any (id kind par : Int) (u2 u3 : Value) (r : Nat → Int) (w : World) : Calls Try.prog 28 #[.agg (nodeV id kind par u2 u3 r)] w (NewOut kind par r w) := by
  have b1 := Blk.new w 55 (nodeV id kind par u2 u3 r)
  have f1 := (Fr.refl w.heap.size [] w).alloc (Nat.le_refl _) (.cells (nodeV id kind par u2 u3 r) 55)
  by_cases hk : kind = 0
  · subst hk
    have HR := Lib.hid (right_any par r)
    go_enter Try.func28, Try.ntmps28
    go_wp2_with fail
    generalize w.alloc _ = w1 at *
    refine (HR.out _).mono ?_
    rintro e w2 ⟨rfl, f2⟩
    have b2 := Lib.hid (b1.fr f2 b1.lt (by simp))
    have F2 := Lib.hid (f1.trans (f2.mono f1.size (by simp)))
    clear b1 f1 f2
    cases hrt : right8 par r with
    | false =>
      go_wp2_with fail
      go_ret2
      exact .inr ⟨(fun h => by rw [h.2] at hrt; cases hrt), rfl, F2.out⟩
    | true =>
      have hp : 1 ≤ par ∧ par ≤ 3 := by
        unfold right8 at hrt
        simp only [Bool.and_eq_true, decide_eq_true_eq] at hrt
        exact hrt.1
      obtain ⟨P, hP⟩ : ∃ P : Nat, par = (P : Int) := ⟨par.toNat, by omega⟩
      subst hP
      have h1 : 1 ≤ P := by omega
      have h3' : P ≤ 3 := by omega
      have HM := mkparts h1 h3'
      have HRT := Lib.hid hrt
      have c4 := b2.out.cell 4
      have c5 := b2.out.cell 5
      have c6 := b2.out.cell 6
      have c7 := b2.out.cell 7
      have c8 := b2.out.cell 8
      have c9 := b2.out.cell 9
      have c10 := b2.out.cell 10
      have c11 := b2.out.cell 11
      have c12 := b2.out.cell 12
      have hlt := b2.out.lt
      simp at c4 c5 c6 c7 c8 c9 c10 c11 c12
      clear hrt
      go_wp2_with fail
      go_region
      all_goals
        have e1 : (w2.alloc (.cells (ptC P noV) 118)).heap.size = w2.heap.size + 1 := by simp
        have hs := Blk.new (w2.alloc (.cells (ptC P noV) 118)) 114 (srcR r w2.heap.size P)
        rw [e1] at hs
        have hp := (Blk.new w2 118 (ptC P noV)).alloc (.cells (srcR r w2.heap.size P) 114)
        have hfr := ((Fr.refl w2.heap.size [] w2).alloc (Nat.le_refl _) (.cells (ptC P noV) 118)).alloc (by simp) (.cells (srcR r w2.heap.size P) 114)
        go_wp2_with fail
        go_ret2
        exact .inl ⟨rfl, HRT.out, P, w2.heap.size + 1, w2.heap.size, rfl, rfl, ⟨⟨h1, h3'⟩, hs.drew, hp.drew, fun i hi => World.ownsRow_nil _ _ _ _, fun i j _ _ _ => .inl rfl, by have := F2.out.size; omega, F2.out.size⟩, F2.out.trans (hfr.drew.mono F2.out.size (by simp))⟩
  · go_enter Try.func28, Try.ntmps28
    go_wp2_with fail
    go_ret2
    exact .inr ⟨fun h => hk h.1, rfl, f1⟩
end Go.Proofs.Ytdkdhhfejbecdaa
