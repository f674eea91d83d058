/- slices.DeleteFunc on an owned row of records. -/
import Derived.Test.YtdkdhhfejbecdaaSrcE
import Derived.Laws.CopyRow
namespace Go.Proofs.Ytdkdhhfejbecdaa
open Go.RowKit Go.Fb
theorem ownsRow_setS {w : World} {base e size n g c : Nat} {xs : List Value} (h : w.ownsRow base e size (.slice (some ⟨g, 0, none⟩) n c) n xs) (k : Nat) (u : Value) :
    (w.setCell ⟨g, k, none⟩ u).ownsRow base e size (.slice (some ⟨g, 0, none⟩) n c) n (xs.set k u) := by
  obtain ⟨hl, hc⟩ := h
  refine ⟨by rw [List.length_set]; exact hl, .inr ?_⟩
  rcases hc with ⟨hn, _⟩ | ⟨g', cap, cur, hv, hb, hg, h1, h2, h3, h4⟩
  · cases hn
  · have hv' := hv
    injection hv with hv1 hv2 hv3
    injection hv1 with hv1
    injection hv1 with hv1
    subst hv1
    refine ⟨g, cap, cur.setIfInBounds k u, hv', hb, ?_, h1, h2, by rw [Array.size_setIfInBounds]; exact h3, ?_⟩
    · simp [World.setCell, Array.getElem?_modify, hg]
    · rw [Array.toList_setIfInBounds, List.take_set, h4]
theorem cellsR_set : ∀ (ys : List (Nat → Int)) (i : Nat) (x : Nat → Int), i < ys.length → cellsR (ys.set i x) = (((cellsR ys).set (i * 3) (.int .i64 (x 0))).set (i * 3 + 1) (.int .i64 (x 1))).set (i * 3 + 2) (.int .i64 (x 2))
  | [], i, x, h => by simp at h
  | y :: ys, 0, x, _ => rfl
  | y :: ys, i + 1, x, h => by
    have ih := cellsR_set ys i x (by simpa using h)
    rw [List.set_cons_succ]
    show recC y ++ cellsR (ys.set i x) = _
    rw [ih, show (i + 1) * 3 = i * 3 + 1 + 1 + 1 by omega]
    rfl
/-- What is kept so far. -/
structure Del (p : (Nat → Int) → Bool) (l ys : List (Nat → Int)) (i j : Nat) : Prop where
  len : ys.length = l.length
  lt : i < j ∧ j ≤ l.length
  low : ys.take i = (l.take j).filter p
  num : i = ((l.take j).filter p).length
  high : ys.drop j = l.drop j
theorem Del.start {p : (Nat → Int) → Bool} {l : List (Nat → Int)} {k : Nat} {x : Nat → Int} (hx : l[k]? = some x) (hp : p x = false) (hb : ∀ j y, j < k → l[j]? = some y → p y = true) : Del p l l k (k + 1) := by
  have hk : k < l.length := by
    rcases Nat.lt_or_ge k l.length with h | h
    · exact h
    · rw [List.getElem?_eq_none h] at hx; cases hx
  have hf : (l.take k).filter p = l.take k := List.filter_eq_self.2 fun y hy => by
    obtain ⟨j, hj, rfl⟩ := List.mem_iff_getElem.1 hy
    have hj2 : j < k := by simp at hj; omega
    exact hb j _ hj2 (by rw [List.getElem_take]; exact List.getElem?_eq_getElem _)
  have hf2 : (l.take (k + 1)).filter p = l.take k := by rw [List.take_add_one, hx, List.filter_append, hf]; simp [hp]
  exact ⟨rfl, ⟨by omega, by omega⟩, hf2.symm, by rw [hf2, List.length_take]; omega, rfl⟩
theorem Del.get {p : (Nat → Int) → Bool} {l ys : List (Nat → Int)} {i j : Nat} (h : Del p l ys i j) {x : Nat → Int} (hx : l[j]? = some x) : ys[j]? = some x := by
  have := congrArg (fun z : List (Nat → Int) => z[0]?) h.high
  simpa [List.getElem?_drop, hx] using this
theorem Del.skip {p : (Nat → Int) → Bool} {l ys : List (Nat → Int)} {i j : Nat} (h : Del p l ys i j) {x : Nat → Int} (hx : l[j]? = some x) (hp : p x = false) : Del p l ys i (j + 1) := by
  have hj : j < l.length := by
    rcases Nat.lt_or_ge j l.length with h | h
    · exact h
    · rw [List.getElem?_eq_none h] at hx; cases hx
  have hf : (l.take (j + 1)).filter p = (l.take j).filter p := by rw [List.take_add_one, hx, List.filter_append]; simp [hp]
  refine ⟨h.len, ⟨by have := h.lt.1; omega, by omega⟩, by rw [hf]; exact h.low, by rw [hf]; exact h.num, ?_⟩
  rw [← List.drop_drop, ← List.drop_drop, h.high]
theorem Del.take {p : (Nat → Int) → Bool} {l ys : List (Nat → Int)} {i j : Nat} (h : Del p l ys i j) {x : Nat → Int} (hx : l[j]? = some x) (hp : p x = true) : Del p l (ys.set i x) (i + 1) (j + 1) := by
  have hj : j < l.length := by
    rcases Nat.lt_or_ge j l.length with h | h
    · exact h
    · rw [List.getElem?_eq_none h] at hx; cases hx
  have hij := h.lt.1
  have hf : (l.take (j + 1)).filter p = (l.take j).filter p ++ [x] := by rw [List.take_add_one, hx, List.filter_append]; simp [hp]
  refine ⟨by rw [List.length_set]; exact h.len, ⟨by omega, by omega⟩, ?_, by rw [hf, List.length_append, ← h.num]; rfl, ?_⟩
  · rw [hf, ← h.low, List.take_add_one, List.take_set_of_le (Nat.le_refl _), List.getElem?_set_self (by rw [h.len]; omega)]
    rfl
  · rw [List.drop_set_of_lt (by omega), ← List.drop_drop, ← List.drop_drop, h.high]
theorem Del.done {p : (Nat → Int) → Bool} {l ys : List (Nat → Int)} {i : Nat} (h : Del p l ys i l.length) : ys.take i = l.filter p ∧ i = (l.filter p).length := by
  have h1 := h.low
  have h2 := h.num
  rw [List.take_length] at h1 h2
  exact ⟨h1, h2⟩
set_option maxRecDepth 100000 in
theorem rindex_any (F : FuncId) (cap : Array Value) (p : (Nat → Int) → Bool) (A : Option Addr) (c B n : Nat) (l : List (Nat → Int)) (w : World) (hent : ∀ (args : Array Value) (w : World), (callFunc F args).run Try.prog w = .ok (.enter F args) w)
    (hF : ∀ (x : Nat → Int) (w' : World), Fr w.heap.size [] w w' → Calls Try.prog F (#[.agg #[.int .i64 (x 0), .int .i64 (x 1), .int .i64 (x 2)]] ++ cap) w' fun e w'' => e = .returned (.bool (!p x)) ∧ Fr w'.heap.size [] w' w'')
    (hn : n = l.length) (hm : n ≤ 1000000) (hr : Reads w B 3 A n (cellsR l)) (hB : B ≤ w.heap.size) :
    Calls Try.prog 112 #[.slice A n c, .func (.func F) #[] cap] w fun e w' => ∃ i : Int, e = .returned (.int .i64 i) ∧ ((i = -1 ∧ ∀ x ∈ l, p x = true) ∨ ∃ (k : Nat) (x : Nat → Int), i = (k : Int) ∧ l[k]? = some x ∧ p x = false ∧ ∀ j y, j < k → l[j]? = some y → p y = true) ∧ Fr w.heap.size [] w w' := by
  have HF := Lib.hid hF
  have HR := Lib.hid hr
  have HN := Lib.hid hn
  clear hF hr hn
  go_enter Try.func112, Try.ntmps112
  go_wp2_with fail
  go_loopg [8] n (fun g s8 wr => ∃ k : Nat, k ≤ n ∧ g = n - k ∧ s8 = .int .i64 k ∧ RowKit.Hid (∀ j y, j < k → l[j]? = some y → p y = true) ∧ RowKit.Hid (Fr w.heap.size [] w wr))
  case atStart => exact ⟨0, Nat.zero_le _, rfl, rfl, Lib.hid (fun j y h => absurd h (by omega)), Lib.hid (Fr.refl _ _ _)⟩
  case round =>
    obtain ⟨k, hk, rfl, rfl, HP, FR⟩ := hrel
    by_cases hkn : k < n
    · have hki : (k : Int) < (n : Int) := by omega
      have hk0 : (0 : Int) ≤ (k : Int) := by omega
      obtain ⟨x, hx⟩ : ∃ x, l[k]? = some x := ⟨_, List.getElem?_eq_getElem (by rw [← HN.out]; exact hkn)⟩
      have hrl := HR.out.fr FR.out hB (by simp)
      rw [HN.out] at hrl
      obtain ⟨b1, o1, rfl, hb1, hc1⟩ := reads_rec hrl hx
      have p0 := hc1 0 (by omega)
      have p1 := hc1 1 (by omega)
      have p2 := hc1 2 (by omega)
      simp only [Nat.add_zero, ← Nat.add_assoc] at p0 p1 p2
      have HC := Lib.hid (HF.out x wr FR.out)
      have HX := Lib.hid hx
      clear hc1 hrl hx
      cases hpx : p x with
      | false =>
        have HPX := Lib.hid hpx
        rw [hpx] at HC
        clear hpx
        go_wp2_with fail
        refine HC.out.mono ?_
        rintro e w2 ⟨rfl, f2⟩
        have F2 := Lib.hid (FR.out.trans (f2.mono (B' := w.heap.size) (L' := []) FR.out.size (by simp)))
        clear f2 HC
        go_wp2_with fail
        go_ret
        exact ⟨k, rfl, .inr ⟨k, x, rfl, HX.out, HPX.out, HP.out⟩, F2.out⟩
      | true =>
        have HPX := Lib.hid hpx
        rw [hpx] at HC
        clear hpx
        go_wp2_with fail
        refine HC.out.mono ?_
        rintro e w2 ⟨rfl, f2⟩
        have F2 := Lib.hid (FR.out.trans (f2.mono (B' := w.heap.size) (L' := []) FR.out.size (by simp)))
        clear f2 HC
        go_wp2_with fail
        go_roundg (n - (k + 1))
        case measure => omega
        case rel =>
          refine ⟨k + 1, by omega, rfl, by go_num, Lib.hid fun j y hj hy => ?_, F2⟩
          rcases Nat.lt_or_ge j k with h | h
          · exact HP.out j y h hy
          · have : j = k := by omega
            subst this
            rw [HX.out] at hy
            injection hy with hy
            rw [← hy]
            exact HPX.out
    · obtain rfl : k = n := by omega
      go_wp2_with fail
      go_ret
      refine ⟨-1, rfl, .inl ⟨rfl, fun x hx => ?_⟩, FR.out⟩
      obtain ⟨j, hj, rfl⟩ := List.mem_iff_getElem.1 hx
      exact HP.out j _ (by rw [HN.out]; exact hj) (List.getElem?_eq_getElem hj)
/-- What clear does to the end of an owned row of records. -/
theorem run_clear_recs {w : World} {base g c n i : Nat} {ys : List (Nat → Int)} (hn : n = ys.length) (hown : w.ownsRow base 64 3 (.slice (some ⟨g, 0, none⟩) n c) n (cellsR ys)) (hi : i ≤ n) (ty : TypeId) (cc : Nat) :
    ∃ w', (Builtin.clear_ #[56] ty #[.slice (some ⟨g, i * 3, none⟩) (n - i) cc]).run Try.prog w = .ok (.tuple #[]) w' ∧ Reads w' w'.heap.size 3 (some ⟨g, 0, none⟩) i (cellsR (ys.take i)) ∧ Fr w.heap.size [g] w w' := by
  rcases hown.2 with ⟨h0, _⟩ | ⟨g', cap, cur, hv, hb, hg, h1, h2, h3, h4⟩
  · cases h0
  · injection hv with hv1 hv2 hv3
    injection hv1 with hv1
    injection hv1 with hv1
    subst hv1
    subst hv3
    have hlt : g < w.heap.size := (Array.getElem?_eq_some_iff.1 hg).1
    have hlen : (cellsR ys).length = n * 3 := by rw [cellsR_length, hn]
    have hrd : ∀ (cur' : Array Value), cur'.toList.take (i * 3) = cur.toList.take (i * 3) → ∀ w' : World, w'.heap[g]? = some (.cells cur' 64 (0, 0)) → Reads w' w'.heap.size 3 (some ⟨g, 0, none⟩) i (cellsR (ys.take i)) := by
      intro cur' hc' w' hw'
      refine ⟨by rw [cellsR_length, List.length_take]; omega, fun _ => ⟨g, 0, rfl, (Array.getElem?_eq_some_iff.1 hw').1, fun j u hu => ?_⟩⟩
      have hj : j < i * 3 := by
        rcases Nat.lt_or_ge j (i * 3) with h | h
        · exact h
        · rw [List.getElem?_eq_none (by rw [cellsR_length, List.length_take]; omega)] at hu; cases hu
      have hpre : cellsR ys = cellsR (ys.take i) ++ cellsR (ys.drop i) := by
        unfold cellsR
        rw [← List.flatMap_append, List.take_append_drop]
      have e1 : (cellsR ys)[j]? = some u := by
        rw [hpre, List.getElem?_append_left (by
          rcases Nat.lt_or_ge j (cellsR (ys.take i)).length with h | h
          · exact h
          · rw [List.getElem?_eq_none h] at hu; cases hu)]
        exact hu
      rw [← h4, List.getElem?_take_of_lt (by omega)] at e1
      have e2 : cur'.toList[j]? = cur.toList[j]? := by
        rw [← List.getElem?_take_of_lt hj, hc', List.getElem?_take_of_lt hj]
      simp only [World.cell?, hw', Nat.zero_add]
      rw [← Array.getElem?_toList, e2, e1]
      simp
    rcases Nat.eq_zero_or_pos (n - i) with h0 | h0
    · rw [h0]
      refine ⟨w, ?_, hrd cur rfl w hg, Fr.refl _ _ _⟩
      simp [Builtin.clear_, run_underlying Try.underlying56]
    · have hzl : ∀ m, (Builtin.zeroCells (Value.agg #[.int .i64 0, .int .i64 0, .int .i64 0]).cells m).toList.length = m * 3 := fun m => by simp [Builtin.zeroCells, Value.cells]
      have hz1 : ∀ m, ∀ v ∈ (Builtin.zeroCells (Value.agg #[.int .i64 0, .int .i64 0, .int .i64 0]).cells m).toList, v.oneCell' = true := by
        intro m v hv
        simp only [Builtin.zeroCells, Value.cells, Array.toList_map, List.mem_map] at hv
        obtain ⟨j, _, rfl⟩ := hv
        have h3 : j % (#[Value.int .i64 0, .int .i64 0, .int .i64 0] : Array Value).size < 3 := Nat.mod_lt _ (by decide)
        generalize j % (#[Value.int .i64 0, .int .i64 0, .int .i64 0] : Array Value).size = q at h3
        match q, h3 with
        | 0, _ => rfl
        | 1, _ => rfl
        | 2, _ => rfl
      have hst := run_storeCells_at (P := Try.prog) g (i * 3) 64 (Builtin.zeroCells (Value.agg #[.int .i64 0, .int .i64 0, .int .i64 0]).cells (n - i)).toList 0 cur w hg (by rw [hzl, h3]; omega) (hz1 _)
      obtain ⟨zs, hzs⟩ : ∃ zs, zs = (Builtin.zeroCells (Value.agg #[.int .i64 0, .int .i64 0, .int .i64 0]).cells (n - i)).toList := ⟨_, rfl⟩
      rw [← hzs] at hst
      obtain ⟨cs', hcs⟩ : ∃ cs' : Array Value, cs' = (cur.toList.take (i * 3 + 0) ++ zs ++ cur.toList.drop (i * 3 + 0 + zs.length)).toArray := ⟨_, rfl⟩
      rw [← hcs] at hst
      refine ⟨w.setRow g cs', ?_, hrd cs' ?_ _ (setRow_heap w g cur cs' 64 (0, 0) hg), ⟨rfl, rfl, rfl, by simp, fun k _ hk => setRow_other w g k cs' (by simpa using hk)⟩⟩
      · have hz : (zeroValue 64).run Try.prog w = .ok (.agg #[.int .i64 0, .int .i64 0, .int .i64 0]) w := by kernel_rfl
        obtain ⟨m, hm⟩ : ∃ m, n - i = m + 1 := ⟨n - i - 1, by omega⟩
        rw [hm] at hzs ⊢
        simp [Builtin.clear_, run_underlying Try.underlying56, hz]
        rw [← hzs, hst]
        rfl
      · rw [hcs, List.append_assoc, Nat.add_zero, List.take_append_of_le_length (by rw [List.length_take, Array.length_toList, h3]; omega), List.take_take, Nat.min_self]
end Go.Proofs.Ytdkdhhfejbecdaa
