/- The contracts of package align, second part. -/
import Derived.Test.YtkmpcddhbdndkaaAlignA
namespace Go.Proofs.Ytkmpcddhbdndkaa
open Go.RowKit Go.Fb
section
variable {w : World} {g gb : Nat} {bs : List Bool} {b : Bool} {ep : Int} {p : Bool} {many last : Int}
theorem run_clear_bools (hb : Blk w gb 4 (bs.map Value.bool).toArray) (ty : TypeId) :
    ∃ w', (Builtin.clear_ #[160] ty #[.slice (some ⟨gb, 0, none⟩) bs.length bs.length]).run Try.prog w = .ok (.tuple #[]) w' ∧ Blk w' gb 4 ((List.replicate bs.length false).map Value.bool).toArray ∧ Fr w.heap.size [gb] w w' ∧ ∀ k, k ≠ gb → w'.heap[k]? = w.heap[k]? := by
  rcases Nat.eq_zero_or_pos bs.length with h0 | h0
  · have : bs = [] := List.eq_nil_of_length_eq_zero h0
    subst this
    refine ⟨w, ?_, hb, Fr.refl _ _ _, fun _ _ => rfl⟩
    simp [Builtin.clear_, run_underlying Try.underlying160]
  · have hst := run_storeCells_at (P := Try.prog) gb 0 4 (List.replicate bs.length (.bool false)) 0 _ w hb (by simp) (by simp [Value.oneCell'])
    have hd : (bs.map Value.bool).drop bs.length = [] := List.drop_eq_nil_of_le (by simp)
    have hrow : ((((bs.map Value.bool).toArray.toList.take (0 + 0)) ++ List.replicate bs.length (Value.bool false) ++ ((bs.map Value.bool).toArray.toList.drop (0 + 0 + (List.replicate bs.length (Value.bool false)).length))).toArray : Array Value) = ((List.replicate bs.length false).map Value.bool).toArray := by
      simp [hd]
    rw [hrow] at hst
    refine ⟨w.setRow gb ((List.replicate bs.length false).map Value.bool).toArray, ?_, setRow_heap w gb _ _ 4 (0, 0) hb, ⟨rfl, rfl, rfl, by simp, fun k _ hk => setRow_other w gb k _ (by simpa using hk)⟩, fun k hk => setRow_other w gb k _ hk⟩
    have hz : (zeroValue 4).run Try.prog w = .ok (.bool false) w := by
      kernel_rfl
    have hzc : (Builtin.zeroCells (Value.bool false).cells bs.length).toList = List.replicate bs.length (Value.bool false) := by
      simp [Builtin.zeroCells, Value.cells]
      apply List.ext_getElem
      · simp
      · intro j h1 h2
        simp [Nat.mod_one]
    obtain ⟨m, hm⟩ : ∃ m, bs.length = m + 1 := ⟨bs.length - 1, by omega⟩
    rw [hm] at hst hzc ⊢
    simp [Builtin.clear_, run_underlying Try.underlying160, hz, hzc, hst]

theorem block_nil (c : Int) (b : Bool) (k re im ep : Int) (p : Bool) (w : World) : Calls Try.prog 76 #[.pointer none, .int .i64 c, .agg (It b k re im ep p)] w fun e w' => e = .returned (.int .i64 1) ∧ Fr w.heap.size [] w w' := by
  go_enter Try.func76, Try.ntmps76
  go_wp2_with fail
  go_ret
  exact ⟨rfl, (Fr.refl _ _ _).alloc (Nat.le_refl _) _⟩
theorem block_out (h : Al w g gb bs b ep p many last) (c : Int) (hc : inB bs c = false) (ib : Bool) (ik ire iim iep : Int) (ip : Bool) : Calls Try.prog 76 #[.pointer (some ⟨g, 0, none⟩), .int .i64 c, .agg (It ib ik ire iim iep ip)] w fun e w' => e = .returned (.int .i64 2) ∧ Fr w.heap.size [] w w' := by
  have HT := Lib.hid (fun w' (hf : Fr w.heap.size [] w w') => by have := there_any (h.fr0 hf) c; rw [hc] at this; exact this)
  have hlt := h.st.lt
  clear h hc
  go_enter Try.func76, Try.ntmps76
  go_wp2_with (go_at_call 116; refine (HT.out _ ((Fr.refl _ _ _).alloc (Nat.le_refl _) _)).mono ?_; rintro e w' ⟨rfl, rfl⟩)
  go_ret
  exact ⟨rfl, (Fr.refl _ _ _).alloc (Nat.le_refl _) _⟩
theorem block_arg (h : Al w g gb bs b ep p many last) (c : Int) (hc : inB bs c = true) (ik ire iim iep : Int) (ip : Bool) : Calls Try.prog 76 #[.pointer (some ⟨g, 0, none⟩), .int .i64 c, .agg (It false ik ire iim iep ip)] w fun e w' => e = .returned (.int .i64 1) ∧ Fr w.heap.size [] w w' := by
  have HT := Lib.hid (fun w' (hf : Fr w.heap.size [] w w') => by have := there_any (h.fr0 hf) c; rw [hc] at this; exact this)
  have hlt := h.st.lt
  clear h hc
  go_enter Try.func76, Try.ntmps76
  go_wp2_with (go_at_call 116; refine (HT.out _ ((Fr.refl _ _ _).alloc (Nat.le_refl _) _)).mono ?_; rintro e w' ⟨rfl, rfl⟩)
  go_ret
  exact ⟨rfl, (Fr.refl _ _ _).alloc (Nat.le_refl _) _⟩
theorem block_there (h : Al w g gb bs b ep p many last) (c : Nat) (hx : bs[c]? = some true) (ik ire iim iep : Int) (ip : Bool) : Calls Try.prog 76 #[.pointer (some ⟨g, 0, none⟩), .int .i64 c, .agg (It true ik ire iim iep ip)] w fun e w' => e = .returned (.int .i64 13) ∧ Fr w.heap.size [] w w' := by
  have HT := Lib.hid (fun w' (hf : Fr w.heap.size [] w w') => by have := there_any (h.fr0 hf) c; rw [inB_of hx] at this; exact this)
  have hlt := h.st.lt
  have hc6 := h.st.cell 6
  have hcb := h.cellb hx
  have hltb := h.bl.lt
  have hlc : (c : Int) < (bs.length : Int) := by
    have := inB_of hx
    simp [inB] at this
    omega
  clear h hx
  generalize bs.length = n at *
  go_enter Try.func76, Try.ntmps76
  go_wp2_with (go_at_call 116; refine (HT.out _ ((Fr.refl _ _ _).alloc (Nat.le_refl _) _)).mono ?_; rintro e w' ⟨rfl, rfl⟩)
  go_ret
  exact ⟨rfl, (Fr.refl _ _ _).alloc (Nat.le_refl _) _⟩
/-- The world behind a step of Block. -/
theorem al_step (h : Al w g gb bs b ep p many last) (c : Nat) (ep' : Int) (p' : Bool) (m' : Int) :
    Al (((set6 w g (.bool true) (.int .i64 0) (.int .i64 0) (.int .i64 0) (.int .i64 ep') (.bool p')).setCell ⟨gb, c, none⟩ (.bool true)).setCell ⟨g, 7, none⟩ (.int .i64 m')) g gb (bs.set c true) true ep' p' m' last := by
  have s1 := (((blk_set6 h.st (.bool true) (.int .i64 0) (.int .i64 0) (.int .i64 0) (.int .i64 ep') (.bool p')).far (p := ⟨gb, c, none⟩) h.ne (.bool true)).set_ 7 (.int .i64 m'))
  have s2 := (((blk_far6 h.bl h.ne.symm (.bool true) (.int .i64 0) (.int .i64 0) (.int .i64 0) (.int .i64 ep') (.bool p')).set_ c (.bool true)).far (p := ⟨g, 7, none⟩) h.ne.symm (.int .i64 m'))
  refine ⟨?_, ?_⟩
  · simpa using s1
  · simpa [List.map_set] using s2
theorem fr_step {w0 : World} {B g gb c : Nat} (h : Fr B [] w0 w) (u0 u1 u2 u3 u4 u5 x y : Value) : Fr B [g, gb] w0 (((set6 w g u0 u1 u2 u3 u4 u5).setCell ⟨gb, c, none⟩ x).setCell ⟨g, 7, none⟩ y) :=
  ((fr_set6 (h.mono (Nat.le_refl _) (by simp)) (.inr (by simp)) _ _ _ _ _ _).setCell (p := ⟨gb, c, none⟩) (.inr (by simp)) _).setCell (p := ⟨g, 7, none⟩) (.inr (by simp)) _
/-- The cells of the struct when a barrier was blocked. -/
theorem block_ok (h : Al w g gb bs b ep p many last) (c : Nat) (hx : bs[c]? = some false) (ik ire iim iep : Int) (ip : Bool)
    (hm : ¬ 0 < many ∨ (b = true ∧ ep = iep ∧ p = ip)) (hmb : many < 9223372036854775806) (hma : -9223372036854775807 ≤ many) : Calls Try.prog 76 #[.pointer (some ⟨g, 0, none⟩), .int .i64 c, .agg (It true ik ire iim iep ip)] w fun e w' =>
    e = .returned (.int .i64 0) ∧ Al w' g gb (bs.set c true) true iep ip (many + 1) last ∧ Fr w.heap.size [g, gb] w w' := by
  have HT := Lib.hid (fun w' (hf : Fr w.heap.size [] w w') => by have := there_any (h.fr0 hf) c; rw [inB_of hx] at this; exact this)
  have hlt := h.st.lt
  have hc0 := h.st.cell 0
  have hc1 := h.st.cell 1
  have hc2 := h.st.cell 2
  have hc3 := h.st.cell 3
  have hc4 := h.st.cell 4
  have hc5 := h.st.cell 5
  have hc6 := h.st.cell 6
  have hc7 := h.st.cell 7
  have hcb := h.cellb hx
  have hltb := h.bl.lt
  have hlc : (c : Int) < (bs.length : Int) := by
    have := inB_of hx
    simp [inB] at this
    omega
  have hf0 := h.st.frozen 0
  have hf1 := h.st.frozen 1
  have hf2 := h.st.frozen 2
  have hf3 := h.st.frozen 3
  have hf4 := h.st.frozen 4
  have hf5 := h.st.frozen 5
  have hf7 := h.st.frozen 7
  have hfb := h.bl.frozen c
  have hne := h.ne
  have hne' := h.ne.symm
  have H := Lib.hid h
  clear h hx
  have hlen : (bs.set c true).length = bs.length := by simp
  have HL := Lib.hid hlen
  clear hlen
  generalize hn : bs.length = n at *
  have HN := Lib.hid hn
  clear hn
  by_cases hm0 : 0 < many
  · obtain ⟨rfl, rfl, rfl⟩ : b = true ∧ ep = iep ∧ p = ip := by rcases hm with h | h; exact absurd hm0 h; exact h
    clear hm
    go_enter Try.func76, Try.ntmps76
    go_wp2_with (go_at_call 116; refine (HT.out _ ((Fr.refl _ _ _).alloc (Nat.le_refl _) _)).mono ?_; rintro e w' ⟨rfl, rfl⟩)
    go_quiet (fail)
    go_wp2_with fail
    go_region
    all_goals go_wp2_with fail
    all_goals go_ret
    all_goals exact ⟨rfl, al_step (H.out.fr0 (((Fr.refl _ _ _).alloc (Nat.le_refl _) _).drewN _)) _ _ _ _, fr_step (((Fr.refl _ _ _).alloc (Nat.le_refl _) _).drewN _) _ _ _ _ _ _ _ _⟩
  · clear hm
    have hm1 : decide (0 < many) = false := by simpa using hm0
    have hm2 : many ≤ 0 := by omega
    go_enter Try.func76, Try.ntmps76
    go_wp2_with (go_at_call 116; refine (HT.out _ ((Fr.refl _ _ _).alloc (Nat.le_refl _) _)).mono ?_; rintro e w' ⟨rfl, rfl⟩)
    go_quiet (fail)
    go_wp2_with fail
    go_region
    all_goals go_wp2_with fail
    all_goals go_ret
    all_goals exact ⟨rfl, al_step (H.out.fr0 (((Fr.refl _ _ _).alloc (Nat.le_refl _) _).drewN _)) _ _ _ _, fr_step (((Fr.refl _ _ _).alloc (Nat.le_refl _) _).drewN _) _ _ _ _ _ _ _ _⟩
end
end Go.Proofs.Ytkmpcddhbdndkaa
