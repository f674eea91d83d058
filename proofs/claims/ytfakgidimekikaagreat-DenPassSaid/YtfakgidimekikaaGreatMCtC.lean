/- Texts merged into one, for the number of files a claim may have: CtC. -/
import Derived.Test.YtfakgidimekikaaGreatMLyE
import Derived.Test.YtfakgidimekikaaGreatMCtA
import Derived.Shelf.SlSortCmp.WholeK
namespace Go.Proofs.YtfakgidimekikaaGreat
open Go.RowKit Go.Fb Go.Sort
set_option linter.unusedVariables false
/-- An entry of a right place. -/
abbrev EB : Type := { x : Nat → Int // 0 ≤ x 0 ∧ x 0 < 8 ∧ 0 ≤ x 1 ∧ x 1 < 64 }
instance : Inhabited EB := ⟨⟨fun _ => 0, by simp⟩⟩
def ebC (x : EB) : List Value := [.int .i64 (x.1 0), .int .i64 (x.1 1), .int .i64 (x.1 2), .int .i64 (x.1 3), .int .i64 (x.1 4), .int .i64 (x.1 5)]
/-- Where an entry's place stands among all places. -/
def rankE (x : Nat → Int) : Int := x 0 * 64 + x 1
def cfE (x y : EB) : Int := (x.1 0 - y.1 0) * 64 + x.1 1 - y.1 1
theorem ltE (x y : EB) : ltOf cfE x y = decide (rankE x.1 < rankE y.1) := by
  unfold ltOf cfE rankE
  rw [decide_eq_decide]
  omega
theorem swoE : SWO (ltOf cfE) where
  irrefl x := by rw [ltE]; simp
  trans x y z h1 h2 := by rw [ltE] at *; simp only [decide_eq_true_eq] at *; omega
  ntrans x y z h1 h2 := by rw [ltE] at *; simp only [decide_eq_false_iff_not] at *; omega
set_option maxRecDepth 100000 in
set_option maxHeartbeats 2000000 in
theorem ecmp_any (x y : EB) (w : World) : Calls Tryz.prog 84 #[.agg #[.int .i64 (x.1 0), .int .i64 (x.1 1), .int .i64 (x.1 2), .int .i64 (x.1 3), .int .i64 (x.1 4), .int .i64 (x.1 5)], .agg #[.int .i64 (y.1 0), .int .i64 (y.1 1), .int .i64 (y.1 2), .int .i64 (y.1 3), .int .i64 (y.1 4), .int .i64 (y.1 5)]] w fun e w' => e = .returned (.int .i64 (cfE x y)) ∧ ∃ q os', w' = grow (w.drewN q) os' := by
  obtain ⟨x, hx0, hx1, hx2, hx3⟩ := x
  obtain ⟨y, hy0, hy1, hy2, hy3⟩ := y
  unfold cfE
  simp only
  generalize x 0 = a0 at *
  generalize x 1 = a1 at *
  generalize x 2 = a2 at *
  generalize x 3 = a3 at *
  generalize x 4 = a4 at *
  generalize x 5 = a5 at *
  generalize y 0 = b0 at *
  generalize y 1 = b1 at *
  generalize y 2 = b2 at *
  generalize y 3 = b3 at *
  generalize y 4 = b4 at *
  generalize y 5 = b5 at *
  have B1 := Lib.hid ((Blk.new w 97 #[.int .i64 a0, .int .i64 a1, .int .i64 a2, .int .i64 a3, .int .i64 a4, .int .i64 a5]).alloc (.cells #[.int .i64 b0, .int .i64 b1, .int .i64 b2, .int .i64 b3, .int .i64 b4, .int .i64 b5] 97))
  have B2 := Blk.new (w.alloc (.cells #[.int .i64 a0, .int .i64 a1, .int .i64 a2, .int .i64 a3, .int .i64 a4, .int .i64 a5] 97)) 97 #[.int .i64 b0, .int .i64 b1, .int .i64 b2, .int .i64 b3, .int .i64 b4, .int .i64 b5]
  rw [World.size_alloc] at B2
  have B2 := Lib.hid B2
  have HW := Lib.hid (show (w.alloc (.cells #[.int .i64 a0, .int .i64 a1, .int .i64 a2, .int .i64 a3, .int .i64 a4, .int .i64 a5] 97)).alloc (.cells #[.int .i64 b0, .int .i64 b1, .int .i64 b2, .int .i64 b3, .int .i64 b4, .int .i64 b5] 97) = grow w #[.cells #[.int .i64 a0, .int .i64 a1, .int .i64 a2, .int .i64 a3, .int .i64 a4, .int .i64 a5] 97, .cells #[.int .i64 b0, .int .i64 b1, .int .i64 b2, .int .i64 b3, .int .i64 b4, .int .i64 b5] 97] by rw [alloc_eq_grow, alloc_eq_grow, grow_grow]; rfl)
  go_enter Tryz.func84, Tryz.ntmps84
  go_upto_region 1 with fail
  generalize (w.alloc _).alloc _ = w1 at *
  have p0 := B1.out.cell 0
  have p1 := B1.out.cell 1
  have q0 := B2.out.cell 0
  have q1 := B2.out.cell 1
  simp at p0 p1 q0 q1
  clear B1 B2
  go_wp2_with fail
  go_ret
  exact ⟨rfl, 0, _, HW.out⟩
theorem flat_getE : ∀ (L : List EB) (t : Nat), t < L.length * 6 → (L.flatMap ebC)[t]? = some ((ebC L[t / 6]!)[t % 6]!)
  | [], t, h => by simp at h
  | x :: L, t, h => by
    rw [List.flatMap_cons]
    by_cases c : t < 6
    · rw [List.getElem?_append_left (by simpa [ebC] using c), show t / 6 = 0 by omega, show t % 6 = t by omega]
      rw [List.getElem?_eq_getElem (by simpa [ebC] using c), List.getElem!_cons_zero, getElem!_pos _ t (by simpa [ebC] using c)]
    · obtain ⟨u, rfl⟩ : ∃ u, t = u + 6 := ⟨t - 6, by omega⟩
      rw [List.getElem?_append_right (by simp [ebC]), show u + 6 - (ebC x).length = u from by simp [ebC], flat_getE L u (by simp at h; omega), show (u + 6) / 6 = u / 6 + 1 by omega, show (u + 6) % 6 = u % 6 by omega, List.getElem!_cons_succ]
theorem flatK_eb (L : List EB) : (flatK ebC 6 L.toArray).toList = L.flatMap ebC := by
  refine List.ext_getElem? fun t => ?_
  by_cases c : t < L.length * 6
  · rw [flat_getE L t c]
    have h1 : t < (flatK ebC 6 L.toArray).size := by simpa using c
    have h2 := get_flatK ebC 6 L.toArray t (by simpa using c)
    rw [getElem!_pos _ t h1] at h2
    rw [Array.getElem?_toList, Array.getElem?_eq_getElem h1, h2]
    simp
  · rw [List.getElem?_eq_none (by simpa using c), List.getElem?_eq_none]
    have : ∀ L : List EB, (L.flatMap ebC).length = L.length * 6 := fun L => by
      induction L with
      | nil => rfl
      | cons x L ih => rw [List.flatMap_cons, List.length_append, ih]; simp [ebC]; omega
    rw [this]
    omega
/-- What the sort leaves. -/
def SortedE (L : List EB) : Prop := ∀ i j, i < j → j < L.length → ltOf cfE L[j]! L[i]! = false
theorem sortEnt_any (w : World) (g c base : Nat) (L : List EB) (hown : w.ownsRow base 97 6 (.slice (some ⟨g, 0, none⟩) L.length c) L.length (L.flatMap ebC)) (hlt : g < w.heap.size) (hn : L.length ≤ 1000000) :
    Calls Tryz.prog 83 #[.slice (some ⟨g, 0, none⟩) L.length c, .func (.func 84) #[] #[]] w fun e w' =>
      e = .returned (.tuple #[]) ∧ ∃ L', L'.Perm L ∧ SortedE L' ∧ Reads w' (g + 1) 6 (some ⟨g, 0, none⟩) L.length (L'.flatMap ebC) ∧ Fr w.heap.size [g] w w' := by
  have hH : HoldsK ebC 6 w g 0 L.toArray := by
    intro j hj
    have hj' : j < (L.flatMap ebC).length := by rw [← flatK_eb]; simpa using hj
    refine ⟨?_, ?_⟩
    · obtain ⟨b, off, e, _, hc⟩ := (Reads.of_own hown).2 (by have h := hj; simp at h; omega)
      injection e with e
      injection e with e1 e2 _
      subst e1
      subst e2
      rw [hc j _ (List.getElem?_eq_getElem hj')]
      congr 1
      have h1 := hj
      rw [getElem!_pos _ j hj, id, ← Array.getElem_toList]
      simp only [flatK_eb]
    · rw [Nat.zero_add]; exact hown.frozenAt j
  have aE : ∀ w, (isAgg 97).run Tryz.prog w = .ok true w := fun w => by kernel_rfl
  have zE : ∀ w, (Go.sizeOf 97).run Tryz.prog w = .ok 6 w := fun w => by kernel_rfl
  have h := AnyQ.slices_SortFunc Tryz.sortEnt 6 aE zE ebC (fun _ => rfl) (fun x v hv => by simp [ebC] at hv; rcases hv with rfl | rfl | rfl | rfl | rfl | rfl <;> rfl) cfE swoE 84 #[] g 0 c L.toArray w (enters_of Tryz.func84 (by kernel_rfl) rfl) (fun m os dk _ x y => by exact ecmp_any x y _) hH hlt (by simp; omega)
  refine h.mono ?_
  rintro e w' ⟨rfl, d', n, os, hp, hs, rfl⟩
  have hsz : d'.size = L.length := by simpa using hp.1
  refine ⟨rfl, d'.toList, ?_, ?_, ?_, ?_⟩
  · have := hp.2.2
    simpa [hsz, Array.extract_eq_self_of_le] using this
  · intro i j hij hj
    have := hs i j (Nat.zero_le _) hij (by simpa [hsz] using hj)
    have hj2 : j < d'.size := by simpa using hj
    rw [getElem!_pos d' j hj2, getElem!_pos d' i (by omega)] at this
    rw [getElem!_pos d'.toList j hj, getElem!_pos d'.toList i (by simp; omega), Array.getElem_toList, Array.getElem_toList]
    exact this
  · have hK := holdsK_sortWorldK_c ebC 6 w g 0 L.toArray d' n os hH hlt (by simpa using hsz)
    refine ⟨?_, fun _ => ⟨g, 0, rfl, Nat.lt_succ_self _, fun j u hu => ?_⟩⟩
    · rw [← flatK_eb]
      simp [hsz]
    · rw [← flatK_eb, Array.toArray_toList, Array.getElem?_toList] at hu
      obtain ⟨hjs, hu⟩ := Array.getElem?_eq_some_iff.1 hu
      have h := (hK j hjs).1
      rw [getElem!_pos _ j hjs, hu] at h
      exact h
  · refine ⟨rfl, rfl, rfl, size_sortWorldK_c ebC 6 w g 0 n d' os, fun k hk hn => ?_⟩
    have hkg : g ≠ k := fun e => hn (by simp [e])
    unfold sortWorldK
    rw [heap_grow_old _ _ (by simpa [putRowK, putRow, mapBlock] using hk)]
    simp [putRowK, putRow, mapBlock, Array.getElem?_modify, hkg]
end Go.Proofs.YtfakgidimekikaaGreat
