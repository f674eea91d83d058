/- Texts merged into one, for the number of files a claim may have: Effects. -/
import Derived.Test.YtfakgidimekikaaGreatRows
import Derived.Test.YtfakgidimekikaaGreatMA
import Derived.WideMake
namespace Go.Proofs.YtfakgidimekikaaGreat
open Go.RowKit Go.Fb
/-- The operations in the order in which they are laid, with what each takes and leaves. -/
def effL : List (Int × Int × Int) := [(1, 0, 1), (2, 0, 1), (3, 0, 1), (4, 0, 1), (5, 1, 0), (13, 1, 0), (14, 1, 0), (15, 1, 0), (6, 2, 1), (7, 2, 1), (8, 2, 1), (17, 2, 1), (9, 1, 1), (10, 1, 1), (11, 1, 2), (12, 2, 2)]
def entOf (i : Nat) (x : Int × Int × Int) : MapEntry := { key := .int .i64 x.1, val := .agg #[.int .i64 x.2.1, .int .i64 x.2.2], born := i }
def effA : Nat → Array MapEntry
  | 0 => #[]
  | i + 1 => (effA i).push (entOf i (effL.getD i (0, 0, 0)))
theorem alloc_over (w : World) (o o' : Obj) : ({ w.alloc o with heap := (w.alloc o).heap.setIfInBounds w.heap.size o' } : World) = w.alloc o' := by
  have h : (w.heap.push o).setIfInBounds w.heap.size o' = w.heap.push o' := by
    apply Array.ext_getElem?
    intro i
    rw [Array.getElem?_setIfInBounds, Array.getElem?_push, Array.getElem?_push]
    by_cases e : w.heap.size = i
    · subst e; simp
    · have e' : ¬ i = w.heap.size := fun h => e h.symm
      simp [e, e']
  show ({ w with heap := (w.heap.push o).setIfInBounds w.heap.size o' } : World) = { w with heap := w.heap.push o' }
  rw [h]
theorem eff_ins (w : World) (i : Nat) (x t l : Int) (hx : effL.getD i (0, 0, 0) = (x, t, l)) (hf : Instr.findNow (.int .i64) (.int .i64 x) (effA i).toList 0 = some none) :
    (Instr.mapUpdate 243 (.map (some w.heap.size)) (.int .i64 x) (.agg #[.int .i64 t, .int .i64 l])).run Tryz.prog (w.alloc (.map (effA i) i)) = .ok () (w.alloc (.map (effA (i + 1)) (i + 1))) := by
  have hb : (w.alloc (.map (effA i) i)).heap[w.heap.size]? = some (.map (effA i) i) := heap_alloc_new w _
  have hc : (Instr.checkKey false 10000 3 (.int .i64 x)).run Tryz.prog (w.alloc (.map (effA i) i)) = .ok () (w.alloc (.map (effA i) i)) :=
    MapKept.run_checkKey (k := .int .i64 x) Tryz.underlying3 (by simp [MapKept.IsKey]) false 9999
  have he : effA (i + 1) = (effA i).push { key := .int .i64 x, val := .agg #[.int .i64 t, .int .i64 l], born := i } := by
    show (effA i).push (entOf i _) = _
    rw [hx]; rfl
  rw [he]
  simp [Instr.mapUpdate, run_underlying Tryz.underlying243, MapKept.run_getObj_map hb, hc, MapKept.run_findKey Tryz.underlying3 hf, MapKept.run_setObj_map _ hb, Result.andThen]
  exact alloc_over w _ _
/-- The map lies in block r. -/
def EffMap (w : World) (r : Nat) : Prop := w.heap[r]? = some (.map (effA 16) 16)
theorem eff_find (o : Int) (h : 0 ≤ o ∧ o ≤ 17) : (o = 0 ∨ o = 16) ∧ Instr.findNow (.int .i64) (.int .i64 o) (effA 16).toList 0 = some none ∨ ∃ j, Instr.findNow (.int .i64) (.int .i64 o) (effA 16).toList 0 = some (some (j, .agg #[.int .i64 (takesF o), .int .i64 (leavesF o)])) := by
  obtain ⟨n, rfl⟩ := Int.eq_ofNat_of_zero_le h.1
  have hn : n ≤ 17 := by omega
  match n, hn with
  | 0, _ => exact .inl ⟨.inl rfl, by rfl⟩
  | 16, _ => exact .inl ⟨.inr rfl, by rfl⟩
  | 1, _ => exact .inr ⟨0, by rfl⟩
  | 2, _ => exact .inr ⟨1, by rfl⟩
  | 3, _ => exact .inr ⟨2, by rfl⟩
  | 4, _ => exact .inr ⟨3, by rfl⟩
  | 5, _ => exact .inr ⟨4, by rfl⟩
  | 13, _ => exact .inr ⟨5, by rfl⟩
  | 14, _ => exact .inr ⟨6, by rfl⟩
  | 15, _ => exact .inr ⟨7, by rfl⟩
  | 6, _ => exact .inr ⟨8, by rfl⟩
  | 7, _ => exact .inr ⟨9, by rfl⟩
  | 8, _ => exact .inr ⟨10, by rfl⟩
  | 17, _ => exact .inr ⟨11, by rfl⟩
  | 9, _ => exact .inr ⟨12, by rfl⟩
  | 10, _ => exact .inr ⟨13, by rfl⟩
  | 11, _ => exact .inr ⟨14, by rfl⟩
  | 12, _ => exact .inr ⟨15, by rfl⟩
theorem eff_look {w : World} {r : Nat} (h : EffMap w r) (o : Int) (ho : 0 ≤ o ∧ o ≤ 17) : (Instr.lookup 243 (.map (some r)) (.int .i64 o) false).run Tryz.prog w = .ok (.agg #[.int .i64 (takesF o), .int .i64 (leavesF o)]) w := by
  have hc : ∀ b, (Instr.checkKey b 10000 3 (.int .i64 o)).run Tryz.prog w = .ok () w := fun b =>
    MapKept.run_checkKey (k := .int .i64 o) Tryz.underlying3 (by simp [MapKept.IsKey]) b 9999
  have hz : (zeroValue 258).run Tryz.prog w = .ok (.agg #[.int .i64 0, .int .i64 0]) w := by kernel_rfl
  rcases eff_find o ho with ⟨h0, hf⟩ | ⟨j, hf⟩
  · have e1 : takesF o = 0 := by rcases h0 with rfl | rfl <;> rfl
    have e2 : leavesF o = 0 := by rcases h0 with rfl | rfl <;> rfl
    rw [e1, e2]
    simp [Instr.lookup, run_underlying Tryz.underlying243, MapKept.run_getObj_map h, hc, MapKept.run_findKey Tryz.underlying3 hf, hz, Result.andThen]
  · simp [Instr.lookup, run_underlying Tryz.underlying243, MapKept.run_getObj_map h, hc, MapKept.run_findKey Tryz.underlying3 hf, Result.andThen]
set_option maxRecDepth 100000 in
set_option maxHeartbeats 1000000 in
theorem effects_any (w : World) : Calls Tryz.prog 179 #[] w fun e w' => e = .returned (.map (some w.heap.size)) ∧ w' = w.alloc (.map (effA 16) 16) := by
  have hmk : (Instr.makeMap 243 none).run Tryz.prog w = .ok (.map (some w.heap.size)) (w.alloc (.map (effA 0) 0)) := by
    show _ = Result.ok _ (w.alloc (.map #[] 0))
    simp [Instr.makeMap, Result.andThen]
  have i0 := eff_ins w 0 1 0 1 rfl rfl
  have i1 := eff_ins w 1 2 0 1 rfl rfl
  have i2 := eff_ins w 2 3 0 1 rfl rfl
  have i3 := eff_ins w 3 4 0 1 rfl rfl
  have i4 := eff_ins w 4 5 1 0 rfl rfl
  have i5 := eff_ins w 5 13 1 0 rfl rfl
  have i6 := eff_ins w 6 14 1 0 rfl rfl
  have i7 := eff_ins w 7 15 1 0 rfl rfl
  have i8 := eff_ins w 8 6 2 1 rfl rfl
  have i9 := eff_ins w 9 7 2 1 rfl rfl
  have i10 := eff_ins w 10 8 2 1 rfl rfl
  have i11 := eff_ins w 11 17 2 1 rfl rfl
  have i12 := eff_ins w 12 9 1 1 rfl rfl
  have i13 := eff_ins w 13 10 1 1 rfl rfl
  have i14 := eff_ins w 14 11 1 2 rfl rfl
  have i15 := eff_ins w 15 12 2 2 rfl rfl
  simp only [Nat.reduceAdd] at i0 i1 i2 i3 i4 i5 i6 i7 i8 i9 i10 i11 i12 i13 i14 i15
  go_enter Tryz.func179, Tryz.ntmps179
  go_wp2_with fail
  go_ret
  exact ⟨rfl, rfl⟩
end Go.Proofs.YtfakgidimekikaaGreat
