/- The contracts of package align, first part. -/
import Derived.Test.YtkmpcddhbdndkaaRows
import Derived.Test.YtkmpcddhbdndkaaW
import Derived.Laws.MakeOwn
namespace Go.Proofs.Ytkmpcddhbdndkaa
open Go.RowKit Go.Fb

/-- The cells of an item. -/
abbrev It (b : Bool) (k re im ep : Int) (p : Bool) : Array Value := #[.bool b, .int .i64 k, .int .i64 re, .int .i64 im, .int .i64 ep, .bool p]
/-- The state of an Align: blocks g (the struct) and gb (who is blocked). -/
structure Al (w : World) (g gb : Nat) (bs : List Bool) (b : Bool) (ep : Int) (p : Bool) (many last : Int) : Prop where
  st : Blk w g 183 #[.bool b, .int .i64 0, .int .i64 0, .int .i64 0, .int .i64 ep, .bool p, .slice (some ⟨gb, 0, none⟩) bs.length bs.length, .int .i64 many, .int .i64 last]
  bl : Blk w gb 4 (bs.map Value.bool).toArray
theorem Al.ne {w : World} {g gb : Nat} {bs : List Bool} {b : Bool} {ep : Int} {p : Bool} {many last : Int} (h : Al w g gb bs b ep p many last) : g ≠ gb := h.st.ne_ h.bl (by decide)
theorem Al.fr {w w' : World} {g gb : Nat} {bs : List Bool} {b : Bool} {ep : Int} {p : Bool} {many last : Int} {B : Nat} {L : List Nat} (h : Al w g gb bs b ep p many last) (hf : Fr B L w w') (h1 : g < B) (h2 : gb < B) (h3 : g ∉ L) (h4 : gb ∉ L) : Al w' g gb bs b ep p many last :=
  ⟨h.st.fr hf h1 h3, h.bl.fr hf h2 h4⟩
theorem Al.fr0 {w w' : World} {g gb : Nat} {bs : List Bool} {b : Bool} {ep : Int} {p : Bool} {many last : Int} (h : Al w g gb bs b ep p many last) (hf : Fr w.heap.size [] w w') : Al w' g gb bs b ep p many last :=
  h.fr hf h.st.lt h.bl.lt (by simp) (by simp)
theorem Al.cellb {w : World} {g gb : Nat} {bs : List Bool} {b : Bool} {ep : Int} {p : Bool} {many last : Int} (h : Al w g gb bs b ep p many last) {c : Nat} {x : Bool} (hc : bs[c]? = some x) : w.cell? ⟨gb, c, none⟩ = some (.bool x) := by
  rw [h.bl.cell]
  simp [hc]

/-- A block of an item after all its cells were written. -/
def set6 (w : World) (g : Nat) (u0 u1 u2 u3 u4 u5 : Value) : World :=
  (((((w.setCell ⟨g, 0, none⟩ u0).setCell ⟨g, 1, none⟩ u1).setCell ⟨g, 2, none⟩ u2).setCell ⟨g, 3, none⟩ u3).setCell ⟨g, 4, none⟩ u4).setCell ⟨g, 5, none⟩ u5
theorem blk_set6 {w : World} {g t : Nat} {a0 a1 a2 a3 a4 a5 : Value} {rest : List Value} (h : Blk w g t (a0 :: a1 :: a2 :: a3 :: a4 :: a5 :: rest).toArray) (u0 u1 u2 u3 u4 u5 : Value) :
    Blk (set6 w g u0 u1 u2 u3 u4 u5) g t (u0 :: u1 :: u2 :: u3 :: u4 :: u5 :: rest).toArray := by
  have h0 := h.set_ 0 u0
  simp only [List.setIfInBounds_toArray, List.set_cons_zero] at h0
  have h1 := h0.set_ 1 u1
  simp only [List.setIfInBounds_toArray, List.set_cons_succ, List.set_cons_zero] at h1
  have h2 := h1.set_ 2 u2
  simp only [List.setIfInBounds_toArray, List.set_cons_succ, List.set_cons_zero] at h2
  have h3 := h2.set_ 3 u3
  simp only [List.setIfInBounds_toArray, List.set_cons_succ, List.set_cons_zero] at h3
  have h4 := h3.set_ 4 u4
  simp only [List.setIfInBounds_toArray, List.set_cons_succ, List.set_cons_zero] at h4
  have h5 := h4.set_ 5 u5
  simp only [List.setIfInBounds_toArray, List.set_cons_succ, List.set_cons_zero] at h5
  exact h5
theorem fr_set6 {B g : Nat} {L : List Nat} {a w : World} (h : Fr B L a w) (hg : B ≤ g ∨ g ∈ L) (u0 u1 u2 u3 u4 u5 : Value) : Fr B L a (set6 w g u0 u1 u2 u3 u4 u5) :=
  (((((h.setCell (p := ⟨g, 0, none⟩) hg _).setCell (p := ⟨g, 1, none⟩) hg _).setCell (p := ⟨g, 2, none⟩) hg _).setCell (p := ⟨g, 3, none⟩) hg _).setCell (p := ⟨g, 4, none⟩) hg _).setCell (p := ⟨g, 5, none⟩) hg _
theorem blk_far6 {w : World} {g g' t : Nat} {cs : Array Value} (h : Blk w g t cs) (hne : g ≠ g') (u0 u1 u2 u3 u4 u5 : Value) : Blk (set6 w g' u0 u1 u2 u3 u4 u5) g t cs :=
  (((((h.far (p := ⟨g', 0, none⟩) hne _).far (p := ⟨g', 1, none⟩) hne _).far (p := ⟨g', 2, none⟩) hne _).far (p := ⟨g', 3, none⟩) hne _).far (p := ⟨g', 4, none⟩) hne _).far (p := ⟨g', 5, none⟩) hne _
/-- A result that lies in a row of cells, and one in a slot. -/
theorem results_row_tmp {P : Program} {fn : Func} {p q : Tmp} {ty : TypeId} (h : fn.results = #[.cell p ty, .tmp q]) (tmps : Array Value) (w : World) (g : Nat) (t : TypeId) (cs : Array Value) (fr : Nat × Nat) (d : TypeDesc)
    (hp : tmps.getD p undef = .pointer (some ⟨g, 0, none⟩)) (hg : w.heap[g]? = some (.cells cs t fr))
    (hu : P.underlying ty = some d) (hd : (match d with | .struct _ | .array _ _ => true | _ => false) = true) (hi : (P.info? ty).map (·.size) = some cs.size) :
    (results fn tmps).run P w = .ok (.tuple #[.agg cs, tmps.getD q undef]) w := by
  have hp' : tmps[p]?.getD undef = .pointer (some ⟨g, 0, none⟩) := by simpa using hp
  simp [results, h, hp', asAddr, run_loadVar_row w g t ty cs fr d hg hu hd hi]

theorem anew_no (n : Int) (w : World) (h : n < 0 ∨ 64 < n) : Calls Try.prog 75 #[.int .i64 n] w fun e w' => e = .returned (.tuple #[.pointer none, .int .i64 1]) ∧ w = w' := by
  rcases h with h | h
  all_goals
    go_enter Try.func75, Try.ntmps75
    go_wp2_with fail
    go_ret2
    exact ⟨rfl, rfl⟩
theorem boolinfo : (Try.prog.info? 4).map (fun i => (i.zero, i.size, i.bytes)) = some (some (.bool false), 1, 1) := by kernel_rfl
set_option maxRecDepth 100000 in
theorem anew_yes (n : Nat) (w : World) (h : n ≤ 64) : Calls Try.prog 75 #[.int .i64 n] w fun e w' =>
    e = .returned (.tuple #[.pointer (some ⟨w.heap.size + 1, 0, none⟩), .int .i64 0]) ∧ Al w' (w.heap.size + 1) w.heap.size (List.replicate n false) false 0 false 0 ((n : Int) - 1) ∧ Fr w.heap.size [] w w' := by
  obtain ⟨i, hi, hz, hsz, hby⟩ := info_parts boolinfo
  have hmk : ∀ W : World, (Instr.makeSlice 160 (.int .i64 (n : Int)) (.int .i64 (n : Int))).run Try.prog W = .ok (.slice (some ⟨W.heap.size, 0, none⟩) n n) (W.alloc (.cells (madeCells (Value.bool false).cells (n * i.size)) 4)) := fun W => by
    have hr := run_make (P := Try.prog) W 160 4 i (.bool false) Try.underlying160 hi hz .i64 .i64 n n (by omega) (by omega) (by rw [hby]; omega) (by omega)
    simp only [Int.toNat_natCast] at hr
    exact hr
  have hmc : madeCells (Value.bool false).cells (n * i.size) = ((List.replicate n false).map Value.bool).toArray := by
    rw [hsz, Nat.mul_one]
    apply Array.ext
    · simp [size_madeCells]
    · intro j h1 h2
      simp [madeCells, Value.cells, Nat.mod_one]
  rw [hmc] at hmk
  clear hmc
  go_enter Try.func75, Try.ntmps75
  go_wp2_with fail
  go_ret2
  refine ⟨rfl, ⟨?_, ?_⟩, ((Fr.refl _ _ _).alloc (Nat.le_refl _) _).alloc (by simp) _⟩
  · have h := Blk.new (w.alloc (.cells ((List.replicate n false).map Value.bool).toArray 4)) 183 #[.bool false, .int .i64 0, .int .i64 0, .int .i64 0, .int .i64 0, .bool false, .slice (some ⟨w.heap.size, 0, none⟩) n n, .int .i64 0, .int .i64 ((n : Int) - 1)]
    rw [show (w.alloc (.cells ((List.replicate n false).map Value.bool).toArray 4)).heap.size = w.heap.size + 1 by simp] at h
    simpa using h
  · have h := (Blk.new w 4 ((List.replicate n false).map Value.bool).toArray).alloc (.cells #[.bool false, .int .i64 0, .int .i64 0, .int .i64 0, .int .i64 0, .bool false, .slice (some ⟨w.heap.size, 0, none⟩) n n, .int .i64 0, .int .i64 ((n : Int) - 1)] 183)
    simpa using h

section
variable {w : World} {g gb : Nat} {bs : List Bool} {b : Bool} {ep : Int} {p : Bool} {many last : Int}
/-- Is there a channel? -/
def inB (bs : List Bool) (c : Int) : Bool := decide (0 ≤ c ∧ c < (bs.length : Int))
theorem there_nil (c : Int) (w : World) : Calls Try.prog 116 #[.pointer none, .int .i64 c] w fun e w' => e = .returned (.bool false) ∧ w = w' := by
  go_enter Try.func116, Try.ntmps116
  go_wp2_with fail
  go_ret
  exact ⟨rfl, rfl⟩
set_option maxRecDepth 100000 in
theorem there_any (h : Al w g gb bs b ep p many last) (c : Int) : Calls Try.prog 116 #[.pointer (some ⟨g, 0, none⟩), .int .i64 c] w fun e w' => e = .returned (.bool (inB bs c)) ∧ w = w' := by
  have hc := h.st.cell 6
  by_cases h0 : 0 ≤ c
  · by_cases h1 : c < (bs.length : Int)
    · have hv : inB bs c = true := by simp [inB, h0, h1]
      rw [hv]
      clear hv h
      generalize bs.length = n at *
      go_enter Try.func116, Try.ntmps116
      go_wp2_with fail
      go_ret
      exact ⟨by first | rfl | simp | (simp; omega), rfl⟩
    · have hv : inB bs c = false := by simp [inB]; omega
      rw [hv]
      clear hv h
      generalize bs.length = n at *
      go_enter Try.func116, Try.ntmps116
      go_wp2_with fail
      go_ret
      exact ⟨by first | rfl | simp | (simp; omega), rfl⟩
  · have hv : inB bs c = false := by simp [inB]; omega
    rw [hv]
    clear hv h
    generalize bs.length = n at *
    go_enter Try.func116, Try.ntmps116
    go_wp2_with fail
    go_ret
    exact ⟨by first | rfl | simp | (simp; omega), rfl⟩

theorem inB_of {c : Nat} {x : Bool} (hx : bs[c]? = some x) : inB bs (c : Int) = true := by
  have : c < bs.length := by
    rcases Nat.lt_or_ge c bs.length with h | h
    · exact h
    · rw [List.getElem?_eq_none h] at hx; cases hx
  simp [inB]; omega
abbrev It0 : Array Value := It false 0 0 0 0 false
theorem met_nil (w : World) : Calls Try.prog 77 #[.pointer none] w fun e w' => e = .returned (.tuple #[.agg It0, .bool false]) ∧ Fr w.heap.size [] w w' := by
  go_enter Try.func77, Try.ntmps77
  go_wp2_with fail
  go_quiet (fail)
  go_wp2_with fail
  refine bodyPost_ret (results_row_tmp rfl _ _ w.heap.size 70 It0 (0, 0) _ rfl (blk_set6 (((Blk.new w 70 It0).drewN nq)) _ _ _ _ _ _) Try.underlying70 rfl (by kernel_rfl)) rfl ⟨rfl, fr_set6 (((Fr.refl _ _ w).alloc (Nat.le_refl _) _).drewN nq) (.inl (Nat.le_refl _)) _ _ _ _ _ _⟩

/-- Do all meet? -/
def metB (many : Int) (n : Nat) : Bool := !(many == 0 || decide (many < (n : Int)))
set_option maxRecDepth 100000 in
theorem met_no (h : Al w g gb bs b ep p many last) (hm : metB many bs.length = false) : Calls Try.prog 77 #[.pointer (some ⟨g, 0, none⟩)] w fun e w' => e = .returned (.tuple #[.agg It0, .bool false]) ∧ Fr w.heap.size [] w w' := by
  have hc6 := h.st.cell 6
  have hc7 := h.st.cell 7
  have hlt := h.st.lt
  clear h
  generalize bs.length = n at *
  by_cases hz : many = 0
  · have hz' : (many == 0) = true := by simpa using hz
    clear hz hm
    go_enter Try.func77, Try.ntmps77
    go_wp2_with fail
    go_quiet (fail)
    go_wp2_with fail
    exact bodyPost_ret (results_row_tmp rfl _ _ w.heap.size 70 It0 (0, 0) _ rfl (blk_set6 (((Blk.new w 70 It0).drewN nq)) _ _ _ _ _ _) Try.underlying70 rfl (by kernel_rfl)) rfl ⟨rfl, fr_set6 (((Fr.refl _ _ w).alloc (Nat.le_refl _) _).drewN nq) (.inl (Nat.le_refl _)) _ _ _ _ _ _⟩
  · have hz' : (many == 0) = false := by simpa using hz
    have hml : many < (n : Int) := by simpa [metB, hz] using hm
    clear hz hm
    go_enter Try.func77, Try.ntmps77
    go_wp2_with fail
    go_quiet (fail)
    go_wp2_with fail
    exact bodyPost_ret (results_row_tmp rfl _ _ w.heap.size 70 It0 (0, 0) _ rfl (blk_set6 (((Blk.new w 70 It0).drewN nq)) _ _ _ _ _ _) Try.underlying70 rfl (by kernel_rfl)) rfl ⟨rfl, fr_set6 (((Fr.refl _ _ w).alloc (Nat.le_refl _) _).drewN nq) (.inl (Nat.le_refl _)) _ _ _ _ _ _⟩
set_option maxRecDepth 100000 in
theorem met_yes (h : Al w g gb bs b ep p many last) (hm : metB many bs.length = true) : Calls Try.prog 77 #[.pointer (some ⟨g, 0, none⟩)] w fun e w' => e = .returned (.tuple #[.agg (It b 0 0 0 ep p), .bool true]) ∧ Fr w.heap.size [] w w' := by
  have hc0 := h.st.cell 0
  have hc1 := h.st.cell 1
  have hc2 := h.st.cell 2
  have hc3 := h.st.cell 3
  have hc4 := h.st.cell 4
  have hc5 := h.st.cell 5
  have hc6 := h.st.cell 6
  have hc7 := h.st.cell 7
  have hlt := h.st.lt
  clear h
  generalize bs.length = n at *
  obtain ⟨hz, hml⟩ : (many == 0) = false ∧ decide (many < (n : Int)) = false := by
    unfold metB at hm
    rw [Bool.not_eq_true', Bool.or_eq_false_iff] at hm
    exact hm
  clear hm
  go_enter Try.func77, Try.ntmps77
  go_wp2_with fail
  go_quiet (fail)
  go_wp2_with fail
  exact bodyPost_ret (results_row_tmp rfl _ _ w.heap.size 70 (It b 0 0 0 ep p) (0, 0) _ rfl (blk_set6 (((Blk.new w 70 It0).drewN nq)) _ _ _ _ _ _) Try.underlying70 rfl (by kernel_rfl)) rfl ⟨rfl, fr_set6 (((Fr.refl _ _ w).alloc (Nat.le_refl _) _).drewN nq) (.inl (Nat.le_refl _)) _ _ _ _ _ _⟩

end
end Go.Proofs.Ytkmpcddhbdndkaa
