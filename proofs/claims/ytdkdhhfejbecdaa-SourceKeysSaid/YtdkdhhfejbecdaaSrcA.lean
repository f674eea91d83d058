/- A source with one partition: its memory, and New. -/
import Derived.Test.YtdkdhhfejbecdaaGauss
import Derived.Test.YtdkdhhfejbecdaaRouteB
import Derived.Laws.MakeOwn
import Derived.Deep.RegionLaw
import Derived.Deep.AppendLies
namespace Go.Proofs.Ytdkdhhfejbecdaa
open Go.RowKit Go.Fb
/-- The cells of a record. -/
def recC (x : Nat → Int) : List Value := [.int .i64 (x 0), .int .i64 (x 1), .int .i64 (x 2)]
def cellsR (l : List (Nat → Int)) : List Value := l.flatMap recC
theorem cellsR_length (l : List (Nat → Int)) : (cellsR l).length = l.length * 3 := by
  unfold cellsR
  induction l with
  | nil => rfl
  | cons x l ih => rw [List.flatMap_cons, List.length_append, ih]; simp [recC]; omega
theorem recC_get (x : Nat → Int) : ∀ j, j < 3 → (recC x)[j]? = some (.int .i64 (x j))
  | 0, _ => rfl
  | 1, _ => rfl
  | 2, _ => rfl
  | j + 3, h => by omega
theorem cellsR_get : ∀ {l : List (Nat → Int)} {k : Nat} {x : Nat → Int}, l[k]? = some x → ∀ j, j < 3 → (cellsR l)[k * 3 + j]? = some (.int .i64 (x j))
  | [], k, x, h, _, _ => by simp at h
  | y :: l, 0, x, h, j, hj => by
    simp at h
    subst h
    rw [cellsR, List.flatMap_cons, Nat.zero_mul, Nat.zero_add, List.getElem?_append_left (by simp [recC]; omega)]
    exact recC_get y j hj
  | y :: l, k + 1, x, h, j, hj => by
    rw [cellsR, List.flatMap_cons, List.getElem?_append_right (by simp [recC]; omega)]
    have ih := cellsR_get (l := l) (k := k) (x := x) (by simpa using h) j hj
    have e : (k + 1) * 3 + j - (recC y).length = k * 3 + j := by simp [recC]; omega
    rw [e]
    exact ih
theorem reads_rec {w : World} {B : Nat} {A : Option Addr} {l : List (Nat → Int)} (h : Reads w B 3 A l.length (cellsR l)) {k : Nat} {x : Nat → Int} (hx : l[k]? = some x) :
    ∃ b off, A = some ⟨b, off, none⟩ ∧ b < B ∧ ∀ j, j < 3 → w.cell? ⟨b, off + (k * 3 + j), none⟩ = some (.int .i64 (x j)) := by
  have hk : k < l.length := by
    rcases Nat.lt_or_ge k l.length with h | h
    · exact h
    · rw [List.getElem?_eq_none h] at hx; cases hx
  obtain ⟨b, off, e, hb, hc⟩ := h.2 (by omega)
  exact ⟨b, off, e, hb, fun j hj => hc _ _ (cellsR_get hx j hj)⟩
abbrev srcC (gp : Nat) : Array Value := #[.int .i64 0, .int .i64 0, .int .i64 0, .int .i64 0, .int .i64 0, .int .i64 0, .int .i64 0, .int .i64 0, .slice (some ⟨gp, 0, none⟩) 1 1]
/-- A source with one partition: what it has, and how much of it was read. -/
structure Sr (base : Nat) (gs gp : Nat) (l : List (Nat → Int)) (at_ : Int) (V : Value) (w : World) : Prop where
  st : Blk w gs 114 (srcC gp)
  pt : Blk w gp 118 #[V, .int .i64 at_]
  own : w.ownsRow base 64 3 V l.length (cellsR l)
  off : V.ownBlock ≠ some gs ∧ V.ownBlock ≠ some gp
  low : base ≤ gs ∧ base ≤ gp
theorem Sr.fr {base gs gp : Nat} {l : List (Nat → Int)} {at_ : Int} {V : Value} {w w' : World} {B : Nat} {L : List Nat} (h : Sr base gs gp l at_ V w) (hf : Fr B L w w') (hB : w.heap.size ≤ B) (h1 : gs ∉ L) (h2 : gp ∉ L) (h3 : ∀ b, V.ownBlock = some b → b ∉ L) : Sr base gs gp l at_ V w' :=
  ⟨h.st.fr hf (Nat.lt_of_lt_of_le h.st.lt hB) h1, h.pt.fr hf (Nat.lt_of_lt_of_le h.pt.lt hB) h2, ownsRow_fr h.own hf (fun q hq => ⟨Nat.lt_of_lt_of_le (h.own.lt q hq).2 hB, h3 q hq⟩), h.off, h.low⟩
theorem Sr.keep {base gs gp : Nat} {l : List (Nat → Int)} {at_ : Int} {V : Value} {w w' : World} (h : Sr base gs gp l at_ V w) (hf : Fr w.heap.size [] w w') : Sr base gs gp l at_ V w' := h.fr hf (Nat.le_refl _) (by simp) (by simp) (by simp)
theorem Sr.ne {base gs gp : Nat} {l : List (Nat → Int)} {at_ : Int} {V : Value} {w : World} (h : Sr base gs gp l at_ V w) : gs ≠ gp := h.st.ne_ h.pt (by decide)
theorem mkpart (W : World) : (Instr.makeSlice 112 (.int .i64 1) (.int .i64 1)).run Try.prog W = .ok (.slice (some ⟨W.heap.size, 0, none⟩) 1 1) (W.alloc (.cells #[.slice none 0 0, .int .i64 0] 118)) := by
  have info : (Try.prog.info? 118).map (fun i => (i.zero, i.size, i.bytes)) = some (some (Value.agg #[.slice none 0 0, .int .i64 0]), 2, 32) := by kernel_rfl
  obtain ⟨i, hi, hz, hsz, hby⟩ := info_parts info
  have hr := run_make (P := Try.prog) W 112 118 i (.agg #[.slice none 0 0, .int .i64 0]) Try.underlying112 hi hz .i64 .i64 1 1 (by omega) (by omega) (by rw [hby]; omega) (by omega)
  have hmc : madeCells (Value.agg #[.slice none 0 0, .int .i64 0]).cells ((1 : Int).toNat * i.size) = #[.slice none 0 0, .int .i64 0] := by
    rw [hsz]
    apply Array.ext
    · simp [size_madeCells]
    · intro j h1 h2
      have h3 : j < 2 := by simpa using h2
      match j, h3 with
      | 0, _ => simp [madeCells, Value.cells]
      | 1, _ => simp [madeCells, Value.cells]
  rw [hmc] at hr
  exact hr
/-- The node of one task. -/
abbrev node1 : Value := .agg #[.int .i64 0, .int .i64 0, .slice none 0 0, .slice none 0 0, .int .i64 1, .int .i64 0, .int .i64 0, .int .i64 0, .int .i64 0, .int .i64 0, .int .i64 0, .int .i64 0, .int .i64 0]
set_option maxRecDepth 100000 in
theorem snew1 (w : World) : Calls Try.prog 28 #[node1] w fun e w' => ∃ gs gp, e = .returned (.tuple #[.pointer (some ⟨gs, 0, none⟩), .int .i64 0]) ∧ Sr w.heap.size gs gp [] 0 (.slice none 0 0) w' ∧ Fr w.heap.size [] w w' := by
  have HM := mkpart
  have hr := right_any 1 (fun _ => 0)
  rw [show right8 1 (fun _ => 0) = true by decide] at hr
  have HR := Lib.hid hr
  clear hr
  go_enter Try.func28, Try.ntmps28
  go_wp2_with fail
  have b1 := Blk.new w 55 #[.int .i64 0, .int .i64 0, .slice none 0 0, .slice none 0 0, .int .i64 1, .int .i64 0, .int .i64 0, .int .i64 0, .int .i64 0, .int .i64 0, .int .i64 0, .int .i64 0, .int .i64 0]
  have f1 := (Fr.refl w.heap.size [] w).alloc (Nat.le_refl _) (.cells #[.int .i64 0, .int .i64 0, .slice none 0 0, .slice none 0 0, .int .i64 1, .int .i64 0, .int .i64 0, .int .i64 0, .int .i64 0, .int .i64 0, .int .i64 0, .int .i64 0, .int .i64 0] 55)
  generalize w.alloc _ = w1 at *
  refine (HR.out _).mono ?_
  rintro e w2 ⟨rfl, f2⟩
  have b2 := b1.fr f2 b1.lt (by simp)
  have F2 := Lib.hid (f1.trans (f2.mono f1.size (by simp)))
  have c4 := b2.cell 4
  have c5 := b2.cell 5
  have c6 := b2.cell 6
  have c7 := b2.cell 7
  have c8 := b2.cell 8
  have c9 := b2.cell 9
  have c10 := b2.cell 10
  have c11 := b2.cell 11
  have c12 := b2.cell 12
  have hlt := b2.lt
  simp at c4 c5 c6 c7 c8 c9 c10 c11 c12
  clear b1 b2 f1 f2
  go_wp2_with fail
  go_region
  all_goals
    have e1 : (w2.alloc (.cells #[.slice none 0 0, .int .i64 0] 118)).heap.size = w2.heap.size + 1 := by simp
    have hs := Blk.new (w2.alloc (.cells #[.slice none 0 0, .int .i64 0] 118)) 114 (srcC w2.heap.size)
    rw [e1] at hs
    have hp := (Blk.new w2 118 #[.slice none 0 0, .int .i64 0]).alloc (.cells (srcC w2.heap.size) 114)
    have hfr := ((Fr.refl w2.heap.size [] w2).alloc (Nat.le_refl _) (.cells #[.slice none 0 0, .int .i64 0] 118)).alloc (by simp) (.cells (srcC w2.heap.size) 114)
    go_wp2_with fail
    go_ret2
    exact ⟨w2.heap.size + 1, w2.heap.size, rfl, ⟨hs.drew, hp.drew, World.ownsRow_nil _ _ _ _, by simp [Value.ownBlock], by omega, by omega⟩, F2.out.trans (hfr.drew.mono F2.out.size (by simp))⟩
end Go.Proofs.Ytdkdhhfejbecdaa
