/- slices.insertionSortCmpFunc[int] on an owned row, whatever the compare: the states it comes through. -/
import Derived.Test.YtkgllkoooohikaaBalA
import Derived.Test.YtkgllkoooohikaaOwnSet
import Derived.Deep.DeepCutAuto
namespace Go.Proofs.Ytkgllkoooohikaa
open Go.RowKit Go.Fb
/-- Two neighbours exchanged. -/
def swp (xs : List Int) (j : Nat) : List Int := (xs.set j (xs.getD (j - 1) 0)).set (j - 1) (xs.getD j 0)
/-- The states that the insertion comes through: round i, place j, the list. -/
inductive St (c : Int → Int → Int) (xs0 : List Int) : Nat → Nat → List Int → Prop
  | start : St c xs0 1 1 xs0
  | swap {i j : Nat} {xs : List Int} : St c xs0 i j xs → 0 < j → j < xs.length → c (xs.getD j 0) (xs.getD (j - 1) 0) < 0 → St c xs0 i (j - 1) (swp xs j)
  | next {i j : Nat} {xs : List Int} : St c xs0 i j xs → (j = 0 ∨ ¬ c (xs.getD j 0) (xs.getD (j - 1) 0) < 0) → St c xs0 (i + 1) (i + 1) xs
theorem St.len {c : Int → Int → Int} {xs0 : List Int} {i j : Nat} {xs : List Int} (h : St c xs0 i j xs) : xs.length = xs0.length := by
  induction h with
  | start => rfl
  | swap _ _ _ _ ih => simpa [swp] using ih
  | next _ _ ih => exact ih
theorem getD_mem {xs : List Int} {k : Nat} (h : k < xs.length) : xs.getD k 0 ∈ xs := by
  rw [List.getD_eq_getElem?_getD, List.getElem?_eq_getElem h]
  exact List.getElem_mem h
theorem St.mem {c : Int → Int → Int} {xs0 : List Int} {i j : Nat} {xs : List Int} (h : St c xs0 i j xs) : ∀ x ∈ xs, x ∈ xs0 := by
  induction h with
  | start => exact fun _ h => h
  | swap _ hj hl _ ih =>
    intro x hx
    rcases List.mem_or_eq_of_mem_set hx with hx | rfl
    · rcases List.mem_or_eq_of_mem_set hx with hx | rfl
      · exact ih x hx
      · exact ih _ (getD_mem (by omega))
    · exact ih _ (getD_mem hl)
  | next _ _ ih => exact ih
set_option maxRecDepth 100000 in
set_option maxHeartbeats 2000000 in
theorem insort_any (F : FuncId) (cap : Array Value) (c : Int → Int → Int) (base g n cp : Nat) (xs0 : List Int) (w : World) (hn : n ≤ 12) (hn0 : 0 < n) (hl : xs0.length = n) (hent : ∀ (args : Array Value) (w : World), (callFunc F args).run Try.prog w = .ok (.enter F args) w)
    (hF : ∀ (a b : Int) (w' : World), a ∈ xs0 → b ∈ xs0 → Fr w.heap.size [g] w w' → Calls Try.prog F (#[.int .i64 a, .int .i64 b] ++ cap) w' fun e w'' => e = .returned (.int .i64 (c a b)) ∧ Fr w'.heap.size [] w' w'')
    (ho : w.ownsRow base 3 1 (.slice (some ⟨g, 0, none⟩) n cp) n (xs0.map (Value.int .i64))) :
    Calls Try.prog 80 #[.slice (some ⟨g, 0, none⟩) n cp, .int .i64 0, .int .i64 n, .func (.func F) #[] cap] w fun e w' => ∃ xs, e = .returned (.tuple #[]) ∧ (∃ j, St c xs0 n j xs) ∧ w'.ownsRow base 3 1 (.slice (some ⟨g, 0, none⟩) n cp) n (xs.map (Value.int .i64)) ∧ Fr w.heap.size [g] w w' := by
  have HF := Lib.hid hF
  have HO := Lib.hid ho
  have hlt := (ho.lt g rfl).2
  clear hF ho
  go_enter Try.func80, Try.ntmps80
  go_wp2_with fail
  go_loopw [8] (fun s wr => ∃ (i : Nat) (xs : List Int), 1 ≤ i ∧ (i ≤ n ∨ i = 1) ∧ s = .int .i64 i ∧ RowKit.Hid (∃ j, St c xs0 i j xs ∧ j = i) ∧ RowKit.Hid (wr.ownsRow base 3 1 (.slice (some ⟨g, 0, none⟩) n cp) n (xs.map (Value.int .i64))) ∧ RowKit.Hid (Fr w.heap.size [g] w wr)) (fun s _ => n - (intOf s).toNat)
  case atStart => exact ⟨1, xs0, by omega, .inr rfl, rfl, ⟨1, .start, rfl⟩, HO, Fr.refl _ _ _⟩
  case round =>
    obtain ⟨i, xs, hi1, hin, rfl, HS, HR, HG⟩ := hrel
    by_cases hilt : i < n
    · go_wp2_with fail
      go_loopw [9] (fun s wr => ∃ (j : Nat) (xs : List Int), j ≤ i ∧ s = .int .i64 j ∧ RowKit.Hid (St c xs0 i j xs) ∧ RowKit.Hid (wr.ownsRow base 3 1 (.slice (some ⟨g, 0, none⟩) n cp) n (xs.map (Value.int .i64))) ∧ RowKit.Hid (Fr w.heap.size [g] w wr)) (fun s _ => (intOf s).toNat)
      case atStart =>
        obtain ⟨j, hj, rfl⟩ := HS.out
        exact ⟨_, xs, Nat.le_refl _, rfl, hj, HR, HG⟩
      case round =>
        obtain ⟨j, ys, hji, rfl, HSj, HRj, HGj⟩ := hrel
        have hyl : ys.length = n := by rw [HSj.out.len, hl]
        by_cases hj0 : 0 < j
        · obtain ⟨k, rfl⟩ : ∃ k, j = k + 1 := ⟨j - 1, by omega⟩
          obtain ⟨a, ha⟩ : ∃ a, a = ys.getD (k + 1) 0 := ⟨_, rfl⟩
          obtain ⟨b, hb⟩ : ∃ b, b = ys.getD k 0 := ⟨_, rfl⟩
          have ca := ownsRow_cell HRj.out (k := k + 1) (u := .int .i64 a) (by rw [List.getElem?_map, List.getElem?_eq_getElem (by omega), ha, List.getD_eq_getElem?_getD, List.getElem?_eq_getElem (by omega)]; rfl)
          have cb := ownsRow_cell HRj.out (k := k) (u := .int .i64 b) (by rw [List.getElem?_map, List.getElem?_eq_getElem (by omega), hb, List.getD_eq_getElem?_getD, List.getElem?_eq_getElem (by omega)]; rfl)
          have ma : a ∈ xs0 := by rw [ha]; exact HSj.out.mem _ (getD_mem (by omega))
          have mb : b ∈ xs0 := by rw [hb]; exact HSj.out.mem _ (getD_mem (by omega))
          have HA := Lib.hid ha
          have HB := Lib.hid hb
          clear ha hb
          have hk1 : ((k : Int) + 1) < (n : Int) := by omega
          have hk2 : (k : Int) < (n : Int) := by omega
          have hk3 : (0 : Int) ≤ (k : Int) := by omega
          have hk4 : (0 : Int) ≤ (k : Int) + 1 := by omega
          have hw1 : IntKind.i64.wrap (k : Int) = (k : Int) := by rw [IntKind.wrap_i64]; omega
          have hw2 : IntKind.i64.wrap ((k : Int) + 1 - 1) = (k : Int) := by rw [IntKind.wrap_i64]; omega
          have INV : RowKit.Hid (wr.drew.ownsRow base 3 1 (.slice (some ⟨g, 0, none⟩) n cp) n (ys.map (Value.int .i64)) ∧ Fr w.heap.size [g] w wr.drew ∧ wr.drew.cell? ⟨g, k + 1, none⟩ = some (.int .i64 a) ∧ wr.drew.cell? ⟨g, k, none⟩ = some (.int .i64 b)) := ⟨HRj.out, HGj.out.drew, ca.1, cb.1⟩
          clear ca cb
          by_cases hc : c a b < 0
          · go_wp2_with fail
            go_region_held3 (fun wx => wx.cell? ⟨g, k + 1, none⟩ = some (.int .i64 a) ∧ wx.cell? ⟨g, k, none⟩ = some (.int .i64 b)) (exact ⟨INV.out.2.2.1, INV.out.2.2.2⟩)
              ((refine (HF.out a b _ ma mb INV.out.2.1).mono ?_; rintro e w4 ⟨rfl, f4⟩; have hs4 := f4.size; have INV : RowKit.Hid (w4.ownsRow base 3 1 (.slice (some ⟨g, 0, none⟩) n cp) n (ys.map (Value.int .i64)) ∧ Fr w.heap.size [g] w w4 ∧ w4.cell? ⟨g, k + 1, none⟩ = some (.int .i64 a) ∧ w4.cell? ⟨g, k, none⟩ = some (.int .i64 b)) := (have hg := (INV.out.1.lt g rfl).2; ⟨ownsRow_fr INV.out.1 f4 (fun q hq => ⟨(INV.out.1.lt q hq).2, List.not_mem_nil⟩), INV.out.2.1.trans (f4.mono INV.out.2.1.size (fun _ h _ => absurd h List.not_mem_nil)), (f4.cell (p := ⟨g, k + 1, none⟩) hg List.not_mem_nil).trans INV.out.2.2.1, (f4.cell (p := ⟨g, k, none⟩) hg List.not_mem_nil).trans INV.out.2.2.2⟩); clear f4))
            all_goals
              have hgz := (INV.out.1.lt g rfl).2
              have za := (ownsRow_cell INV.out.1 (k := k + 1) (u := .int .i64 a) (by rw [List.getElem?_map, List.getElem?_eq_getElem (by omega), HA.out, List.getD_eq_getElem?_getD, List.getElem?_eq_getElem (by omega)]; rfl)).2
              have zb := (ownsRow_cell INV.out.1 (k := k) (u := .int .i64 b) (by rw [List.getElem?_map, List.getElem?_eq_getElem (by omega), HB.out, List.getD_eq_getElem?_getD, List.getElem?_eq_getElem (by omega)]; rfl)).2
              have va := INV.out.2.2.1
              have vb := INV.out.2.2.2
              go_wp2_with fail
              go_region
              all_goals
                go_wp2_with fail
                go_roundw
                case rel =>
                  have hs : (swp ys (k + 1)).map (Value.int .i64) = ((ys.map (Value.int .i64)).set (k + 1) (.int .i64 b)).set k (.int .i64 a) := by
                    unfold swp
                    rw [List.map_set, List.map_set, Nat.add_sub_cancel, ← HA.out, ← HB.out]
                  refine ⟨k, swp ys (k + 1), by omega, by go_num, St.swap HSj.out (by omega) (by omega) (by rw [Nat.add_sub_cancel, ← HA.out, ← HB.out]; exact hc), ?_, ?_⟩
                  · show World.ownsRow _ _ _ _ _ _ _
                    rw [hs]
                    exact ownsRow_set (ownsRow_set INV.out.1 (k + 1) (.int .i64 b)) k (.int .i64 a)
                  · exact ((INV.out.2.1.setCell (.inr (by simp)) _).setCell (.inr (by simp)) _).drew
                case measure => simp [intOf]
          · go_wp2_with fail
            go_region_held3 (fun wx => wx.cell? ⟨g, k + 1, none⟩ = some (.int .i64 a) ∧ wx.cell? ⟨g, k, none⟩ = some (.int .i64 b)) (exact ⟨INV.out.2.2.1, INV.out.2.2.2⟩)
              ((refine (HF.out a b _ ma mb INV.out.2.1).mono ?_; rintro e w4 ⟨rfl, f4⟩; have hs4 := f4.size; have INV : RowKit.Hid (w4.ownsRow base 3 1 (.slice (some ⟨g, 0, none⟩) n cp) n (ys.map (Value.int .i64)) ∧ Fr w.heap.size [g] w w4 ∧ w4.cell? ⟨g, k + 1, none⟩ = some (.int .i64 a) ∧ w4.cell? ⟨g, k, none⟩ = some (.int .i64 b)) := (have hg := (INV.out.1.lt g rfl).2; ⟨ownsRow_fr INV.out.1 f4 (fun q hq => ⟨(INV.out.1.lt q hq).2, List.not_mem_nil⟩), INV.out.2.1.trans (f4.mono INV.out.2.1.size (fun _ h _ => absurd h List.not_mem_nil)), (f4.cell (p := ⟨g, k + 1, none⟩) hg List.not_mem_nil).trans INV.out.2.2.1, (f4.cell (p := ⟨g, k, none⟩) hg List.not_mem_nil).trans INV.out.2.2.2⟩); clear f4))
            all_goals
              go_wp2_with fail
              go_roundw
              case rel => exact ⟨i + 1, ys, by omega, .inl (by omega), by go_num, ⟨i + 1, St.next HSj.out (.inr (by rw [Nat.add_sub_cancel, ← HA.out, ← HB.out]; omega)), rfl⟩, INV.out.1, INV.out.2.1⟩
              case measure => simp [intOf]; omega
        · obtain rfl : j = 0 := by omega
          go_wp2_with fail
          go_quiet (fail)
          go_wp2_with fail
          go_roundw
          case rel => exact ⟨i + 1, ys, by omega, .inl (by omega), by go_num, ⟨i + 1, St.next HSj.out (.inl rfl), rfl⟩, HRj.out, HGj.out.drewN nq⟩
          case measure => simp [intOf]; omega
    · obtain rfl : i = n := by omega
      obtain ⟨j, hj, _⟩ := HS.out
      go_wp2_with fail
      go_end0
      exact ⟨xs, rfl, ⟨j, hj⟩, HR.out, HG.out⟩
end Go.Proofs.Ytkgllkoooohikaa
