/- slices.SortFunc on a row of totals. -/
import Derived.Test.YtdkdhhfejbecdaaTotCmp
import Derived.Shelf.SlSortCmp.WholeK
namespace Go.Proofs.Ytdkdhhfejbecdaa
open Go.RowKit Go.Fb Go.Sort
set_option maxRecDepth 100000 in
set_option maxHeartbeats 2000000 in
theorem tcmp_any (x y : Nat → Int) (w : World) : Calls Try.prog 62 #[.agg #[.int .i64 (x 0), .int .i64 (x 1), .int .i64 (x 2), .int .i64 (x 3), .int .i64 (x 4), .int .i64 (x 5)], .agg #[.int .i64 (y 0), .int .i64 (y 1), .int .i64 (y 2), .int .i64 (y 3), .int .i64 (y 4), .int .i64 (y 5)]] w fun e w' => e = .returned (.int .i64 (cfT x y)) ∧ ∃ q os', w' = grow (w.drewN q) os' := by
  have HC := Lib.hid compare_any
  have HO := Lib.hid or_any
  obtain ⟨r0, h0⟩ : ∃ r, r = cmpI (x 0) (y 0) := ⟨_, rfl⟩
  obtain ⟨r1, h1⟩ : ∃ r, r = cmpI (x 1) (y 1) := ⟨_, rfl⟩
  obtain ⟨r2, h2⟩ : ∃ r, r = cmpI (x 2) (y 2) := ⟨_, rfl⟩
  unfold cfT
  rw [← h0, ← h1, ← h2]
  have C0 := Lib.hid (show ∀ w, Calls Try.prog 64 #[.int .i64 (x 0), .int .i64 (y 0)] w fun e w' => e = .returned (.int .i64 r0) ∧ w' = w from fun w => by rw [h0]; exact (compare_any _ _ w).mono fun _ _ ⟨h1, h2⟩ => ⟨h1, h2.symm⟩)
  have C1 := Lib.hid (show ∀ w, Calls Try.prog 64 #[.int .i64 (x 1), .int .i64 (y 1)] w fun e w' => e = .returned (.int .i64 r1) ∧ w' = w from fun w => by rw [h1]; exact (compare_any _ _ w).mono fun _ _ ⟨h1, h2⟩ => ⟨h1, h2.symm⟩)
  have C2 := Lib.hid (show ∀ w, Calls Try.prog 64 #[.int .i64 (x 2), .int .i64 (y 2)] w fun e w' => e = .returned (.int .i64 r2) ∧ w' = w from fun w => by rw [h2]; exact (compare_any _ _ w).mono fun _ _ ⟨h1, h2⟩ => ⟨h1, h2.symm⟩)
  have B1 := (Blk.new w 40 #[.int .i64 (x 0), .int .i64 (x 1), .int .i64 (x 2), .int .i64 (x 3), .int .i64 (x 4), .int .i64 (x 5)]).alloc (.cells #[.int .i64 (y 0), .int .i64 (y 1), .int .i64 (y 2), .int .i64 (y 3), .int .i64 (y 4), .int .i64 (y 5)] 40)
  have B2 := Blk.new (w.alloc (.cells #[.int .i64 (x 0), .int .i64 (x 1), .int .i64 (x 2), .int .i64 (x 3), .int .i64 (x 4), .int .i64 (x 5)] 40)) 40 #[.int .i64 (y 0), .int .i64 (y 1), .int .i64 (y 2), .int .i64 (y 3), .int .i64 (y 4), .int .i64 (y 5)]
  have B1 := Lib.hid B1
  have B2 := Lib.hid B2
  clear h0 h1 h2
  go_enter Try.func62, Try.ntmps62
  go_upto_region 1 with fail
  have HW := Lib.hid (show (w.alloc (.cells #[.int .i64 (x 0), .int .i64 (x 1), .int .i64 (x 2), .int .i64 (x 3), .int .i64 (x 4), .int .i64 (x 5)] 40)).alloc (.cells #[.int .i64 (y 0), .int .i64 (y 1), .int .i64 (y 2), .int .i64 (y 3), .int .i64 (y 4), .int .i64 (y 5)] 40) = grow w #[.cells #[.int .i64 (x 0), .int .i64 (x 1), .int .i64 (x 2), .int .i64 (x 3), .int .i64 (x 4), .int .i64 (x 5)] 40, .cells #[.int .i64 (y 0), .int .i64 (y 1), .int .i64 (y 2), .int .i64 (y 3), .int .i64 (y 4), .int .i64 (y 5)] 40] by rw [alloc_eq_grow, alloc_eq_grow, grow_grow]; rfl)
  simp only [World.size_alloc] at B2 ⊢
  generalize (w.alloc _).alloc _ = w1 at *
  have a0 := B1.out.cell 0
  have a1 := B1.out.cell 1
  have a2 := B1.out.cell 2
  have b0 := B2.out.cell 0
  have b1 := B2.out.cell 1
  have b2 := B2.out.cell 2
  simp at a0 a1 a2 b0 b1 b2
  clear B1 B2
  refine wp_region_still_tail 15 (by kernel_rfl) (by kernel_rfl) ?_
  simp only [List.take_succ_cons, List.take_zero, List.drop_succ_cons, List.drop_zero]
  still_step
  still_step
  still_step
  still_step
  still_call (C0.out _)
  still_step
  still_step
  still_step
  still_step
  still_call (C1.out _)
  still_step
  still_step
  still_step
  still_step
  still_call (C2.out _)
  refine wpStill_nil ?_
  change wpList _ _ _ _ _ w1.drew
  go_wp2_with fail
  have HB3 := (Blk.new w1 3 #[.int .i64 r0, .int .i64 r1, .int .i64 r2]).fr (Fr.refl (w1.heap.size + 1) [] (w1.alloc (.cells #[.int .i64 r0, .int .i64 r1, .int .i64 r2] 3))).drew (Nat.lt_succ_self _) (by simp)
  refine (HO.out r0 r1 r2 _ 3 _ HB3).mono ?_
  rintro e w' ⟨rfl, rfl⟩
  clear HB3
  go_wp2_with fail
  go_ret
  exact ⟨rfl, 1, _, by rw [HW.out, alloc_eq_grow, grow_grow, drew_grow]; rfl⟩
theorem flat_get : ∀ (L : List (Nat → Int)) (t : Nat), t < L.length * 6 → (L.flatMap totC)[t]? = some ((totC L[t / 6]!)[t % 6]!)
  | [], t, h => by simp at h
  | x :: L, t, h => by
    rw [List.flatMap_cons]
    by_cases c : t < 6
    · rw [List.getElem?_append_left (by simpa [totC] using c), show t / 6 = 0 by omega, show t % 6 = t by omega]
      rw [List.getElem?_eq_getElem (by simpa [totC] using c), List.getElem!_cons_zero, getElem!_pos _ t (by simpa [totC] using c)]
    · obtain ⟨u, rfl⟩ : ∃ u, t = u + 6 := ⟨t - 6, by omega⟩
      rw [List.getElem?_append_right (by simp [totC]), show u + 6 - (totC x).length = u from by simp [totC], flat_get L u (by simp at h; omega), show (u + 6) / 6 = u / 6 + 1 by omega, show (u + 6) % 6 = u % 6 by omega, List.getElem!_cons_succ]
theorem flatK_tot (L : List (Nat → Int)) : (flatK totC 6 L.toArray).toList = L.flatMap totC := by
  refine List.ext_getElem? fun t => ?_
  by_cases c : t < L.length * 6
  · rw [flat_get L t c]
    have h1 : t < (flatK totC 6 L.toArray).size := by simpa using c
    have h2 := get_flatK totC 6 L.toArray t (by simpa using c)
    rw [getElem!_pos _ t h1] at h2
    rw [Array.getElem?_toList, Array.getElem?_eq_getElem h1, h2]
    simp
  · rw [List.getElem?_eq_none (by simpa using c), List.getElem?_eq_none]
    have : ∀ L : List (Nat → Int), (L.flatMap totC).length = L.length * 6 := fun L => by
      induction L with
      | nil => rfl
      | cons x L ih => rw [List.flatMap_cons, List.length_append, ih]; simp [totC]; omega
    rw [this]
    omega
/-- What the sort leaves. -/
def SortedT (L : List (Nat → Int)) : Prop := ∀ i j, i < j → j < L.length → ltOf cfT L[j]! L[i]! = false
theorem sortTot_any (w : World) (g c base : Nat) (L : List (Nat → Int)) (hown : w.ownsRow base 40 6 (.slice (some ⟨g, 0, none⟩) L.length c) L.length (L.flatMap totC)) (hlt : g < w.heap.size) (hn : L.length ≤ 1000000) :
    Calls Try.prog 61 #[.slice (some ⟨g, 0, none⟩) L.length c, .func (.func 62) #[] #[]] w fun e w' =>
      e = .returned (.tuple #[]) ∧ ∃ L', L'.Perm L ∧ SortedT L' ∧ Reads w' (g + 1) 6 (some ⟨g, 0, none⟩) L.length (L'.flatMap totC) ∧ Fr w.heap.size [g] w w' := by
  have hH : HoldsK totC 6 w g 0 L.toArray := by
    intro j hj
    have hj' : j < (L.flatMap totC).length := by rw [← flatK_tot]; simpa using hj
    refine ⟨?_, ?_⟩
    · obtain ⟨b, off, e, _, hc⟩ := (Reads.of_own hown).2 (by have h := hj; simp at h; omega)
      injection e with e
      injection e with e1 e2 _
      subst e1
      subst e2
      rw [hc j _ (List.getElem?_eq_getElem hj')]
      congr 1
      have h1 := hj
      rw [getElem!_pos _ j hj, id, ← Array.getElem_toList]
      simp only [flatK_tot]
    · rw [Nat.zero_add]; exact hown.frozenAt j
  have aE : ∀ w, (isAgg 40).run Try.prog w = .ok true w := fun w => by kernel_rfl
  have zE : ∀ w, (Go.sizeOf 40).run Try.prog w = .ok 6 w := fun w => by kernel_rfl
  have h := AnyQ.slices_SortFunc Try.sortTot 6 aE zE totC (fun _ => rfl) (fun x v hv => by simp [totC] at hv; rcases hv with rfl | rfl | rfl | rfl | rfl | rfl <;> rfl) cfT swoT 62 #[] g 0 c L.toArray w (enters_of Try.func62 (by kernel_rfl) rfl) (fun m os dk _ x y => by exact tcmp_any x y _) hH hlt (by simp; omega)
  refine h.mono ?_
  rintro e w' ⟨rfl, d', n, os, hp, hs, rfl⟩
  have hsz : d'.size = L.length := by simpa using hp.1
  refine ⟨rfl, d'.toList, ?_, ?_, ?_, ?_⟩
  · have := hp.2.2
    simpa [hsz, Array.extract_eq_self_of_le] using this
  · intro i j hij hj
    have := hs i j (Nat.zero_le _) hij (by simpa [hsz] using hj)
    have hj2 : j < d'.size := by simpa using hj
    rw [getElem!_pos d' j hj2, getElem!_pos d' i (by omega)] at this
    rw [getElem!_pos d'.toList j hj, getElem!_pos d'.toList i (by simp; omega), Array.getElem_toList, Array.getElem_toList]
    exact this
  · have hK := holdsK_sortWorldK_c totC 6 w g 0 L.toArray d' n os hH hlt (by simpa using hsz)
    refine ⟨?_, fun _ => ⟨g, 0, rfl, Nat.lt_succ_self _, fun j u hu => ?_⟩⟩
    · rw [← flatK_tot]
      simp [hsz]
    · rw [← flatK_tot, Array.toArray_toList, Array.getElem?_toList] at hu
      obtain ⟨hjs, hu⟩ := Array.getElem?_eq_some_iff.1 hu
      have h := (hK j hjs).1
      rw [getElem!_pos _ j hjs, hu] at h
      exact h
  · refine ⟨rfl, rfl, rfl, size_sortWorldK_c totC 6 w g 0 n d' os, fun k hk hn => ?_⟩
    have hkg : g ≠ k := fun e => hn (by simp [e])
    unfold sortWorldK
    rw [heap_grow_old _ _ (by simpa [putRowK, putRow, mapBlock] using hk)]
    simp [putRowK, putRow, mapBlock, Array.getElem?_modify, hkg]
end Go.Proofs.Ytdkdhhfejbecdaa
