/- A set of ints that the call made: map[int]bool; and counts under rotation. -/
import Derived.Test.YtkmkdodhahcpdaaAlignE
import Derived.WideMake
namespace Go.Proofs.Ytkmkdodhahcpdaa
open Go.RowKit Go.Fb
/-- Block r is the map in which just the ints of ks are true. -/
def Seen (w : World) (r : Nat) (ks : List Int) : Prop :=
  ∃ es clock, w.heap[r]? = some (.map es clock) ∧ es.toList.map (fun e => (e.key, e.val)) = ks.map (fun k => (Value.int .i64 k, Value.bool true))
theorem findNow_none (x : Int) : ∀ (es : List MapEntry) (ks : List Int) (i : Nat), es.map (fun e => (e.key, e.val)) = ks.map (fun k => (Value.int .i64 k, Value.bool true)) → x ∉ ks → Instr.findNow (.int .i64) (.int .i64 x) es i = some none
  | [], _, _, _, _ => rfl
  | e :: es, [], _, h, _ => by simp at h
  | e :: es, k :: ks, i, h, hx => by
    simp only [List.map_cons, List.cons.injEq, Prod.mk.injEq] at h
    obtain ⟨⟨h1, h2⟩, h3⟩ := h
    have hne : (x == k) = false := by simp at hx; simp [hx.1]
    have ih := findNow_none x es ks (i + 1) h3 (by simp at hx; exact hx.2)
    simp [Instr.findNow, h1, Instr.sameNow, hne, ih]
theorem seen_lookup {w : World} {r : Nat} {ks : List Int} (h : Seen w r ks) {x : Int} (hx : x ∉ ks) : (Instr.lookup 71 (.map (some r)) (.int .i64 x) false).run Try.prog w = .ok (.bool false) w := by
  obtain ⟨es, clock, hb, he⟩ := h
  have hc : ∀ b, (Instr.checkKey b 10000 3 (.int .i64 x)).run Try.prog w = .ok () w := fun b =>
    MapKept.run_checkKey (k := .int .i64 x) Try.underlying3 (by simp [MapKept.IsKey]) b 9999
  have hz : (zeroValue 4).run Try.prog w = .ok (.bool false) w := by kernel_rfl
  simp [Instr.lookup, run_underlying Try.underlying71, MapKept.run_getObj_map hb, hc, MapKept.run_findKey Try.underlying3 (findNow_none x _ _ 0 he hx), hz, Result.andThen]
theorem seen_store {w : World} {r : Nat} {ks : List Int} (h : Seen w r ks) {x : Int} (hx : x ∉ ks) :
    ∃ w', (Instr.mapUpdate 71 (.map (some r)) (.int .i64 x) (.bool true)).run Try.prog w = .ok () w' ∧ Seen w' r (ks ++ [x]) ∧ Fr w.heap.size [r] w w' := by
  obtain ⟨es, clock, hb, he⟩ := h
  have hc : (Instr.checkKey false 10000 3 (.int .i64 x)).run Try.prog w = .ok () w :=
    MapKept.run_checkKey (k := .int .i64 x) Try.underlying3 (by simp [MapKept.IsKey]) false 9999
  have hlt : r < w.heap.size := by
    rcases Nat.lt_or_ge r w.heap.size with h | h
    · exact h
    · rw [Array.getElem?_eq_none h] at hb; cases hb
  refine ⟨{ w with heap := w.heap.setIfInBounds r (.map (es.push { key := .int .i64 x, val := .bool true, born := clock }) (clock + 1)) }, ?_, ⟨es.push { key := .int .i64 x, val := .bool true, born := clock }, clock + 1, by simp [hlt], ?_⟩, ⟨rfl, rfl, rfl, by simp, fun k _ hk => ?_⟩⟩
  · simp [Instr.mapUpdate, run_underlying Try.underlying71, MapKept.run_getObj_map hb, hc, MapKept.run_findKey Try.underlying3 (findNow_none x _ _ 0 he hx), MapKept.run_setObj_map _ hb, Result.andThen]
  · simp [he]
  · have : r ≠ k := fun h => hk (by simp [h])
    simp [this]
theorem Seen.fr {w w' : World} {r B : Nat} {L : List Nat} {ks : List Int} (h : Seen w r ks) (hf : Fr B L w w') (h1 : r < B) (h2 : r ∉ L) : Seen w' r ks := by
  obtain ⟨es, clock, hb, he⟩ := h
  exact ⟨es, clock, (hf.block r h1 h2).trans hb, he⟩
theorem Seen.lt {w : World} {r : Nat} {ks : List Int} (h : Seen w r ks) : r < w.heap.size := by
  obtain ⟨es, clock, hb, he⟩ := h
  rcases Nat.lt_or_ge r w.heap.size with h | h
  · exact h
  · rw [Array.getElem?_eq_none h] at hb; cases hb
theorem Seen.new (w : World) : Seen (w.alloc (.map #[] 0)) w.heap.size [] := ⟨#[], 0, heap_alloc_new w _, rfl⟩
theorem Seen.block {w : World} {r : Nat} {ks : List Int} (h : Seen w r ks) : ∃ es clock, w.heap[r]? = some (.map es clock) ∧ es.size = ks.length := by
  obtain ⟨es, clock, hb, he⟩ := h
  have := congrArg List.length he
  exact ⟨es, clock, hb, by simpa using this⟩

/-- How many there are below k. -/
def cnt (p : Nat → Bool) (k : Nat) : Nat := (someTo p k).length
theorem cnt_zero (p : Nat → Bool) : cnt p 0 = 0 := rfl
theorem cnt_succ (p : Nat → Bool) (k : Nat) : cnt p (k + 1) = cnt p k + (if p k then 1 else 0) := by
  unfold cnt
  rw [someTo_succ]
  cases p k <;> simp
theorem cnt_congr {p q : Nat → Bool} : ∀ {k : Nat}, (∀ j, j < k → p j = q j) → cnt p k = cnt q k
  | 0, _ => rfl
  | k + 1, h => by rw [cnt_succ, cnt_succ, cnt_congr (fun j hj => h j (by omega)), h k (by omega)]
theorem cnt_add (p : Nat → Bool) (a : Nat) : ∀ b, cnt p (a + b) = cnt p a + cnt (fun j => p (a + j)) b
  | 0 => rfl
  | b + 1 => by
    rw [← Nat.add_assoc, cnt_succ, cnt_add p a b, cnt_succ]
    omega
theorem cnt_rot (p : Nat → Bool) {s N : Nat} (h : s < N) : cnt (fun q => p ((s + q) % N)) N = cnt p N := by
  have e1 : cnt (fun q => p ((s + q) % N)) (N - s + s) = cnt (fun q => p ((s + q) % N)) (N - s) + cnt (fun j => p ((s + (N - s + j)) % N)) s := cnt_add (fun q => p ((s + q) % N)) (N - s) s
  have e2 := cnt_add p s (N - s)
  rw [show N - s + s = N by omega] at e1
  rw [show s + (N - s) = N by omega] at e2
  have e3 : cnt (fun q => p ((s + q) % N)) (N - s) = cnt (fun j => p (s + j)) (N - s) := cnt_congr fun j hj => by
    show p ((s + j) % N) = p (s + j)
    rw [Nat.mod_eq_of_lt (by omega)]
  have e4 : cnt (fun j => p ((s + (N - s + j)) % N)) s = cnt p s := cnt_congr fun j hj => by
    show p ((s + (N - s + j)) % N) = p j
    rw [show s + (N - s + j) = j + N by omega, Nat.add_mod_right, Nat.mod_eq_of_lt (by omega)]
  omega
theorem cnt_none {p : Nat → Bool} {a : Nat} : ∀ {b : Nat}, (∀ j, j < b → p (a + j) = false) → cnt p (a + b) = cnt p a := by
  intro b h
  rw [cnt_add]
  have : ∀ {b : Nat}, (∀ j, j < b → p (a + j) = false) → cnt (fun j => p (a + j)) b = 0 := by
    intro b
    induction b with
    | zero => intro _; rfl
    | succ b ih => intro h; rw [cnt_succ, ih fun j hj => h j (by omega)]; simp [h b (by omega)]
  rw [this h]
  rfl
theorem cnt_more {p : Nat → Bool} {a b : Nat} (h : cnt p a < cnt p b) (hab : a ≤ b) : ∃ q, a ≤ q ∧ q < b ∧ p q = true := by
  rcases Classical.em (∃ q, a ≤ q ∧ q < b ∧ p q = true) with h' | h'
  · exact h'
  · exfalso
    have := cnt_none (p := p) (a := a) (b := b - a) fun j hj => by
      cases hp : p (a + j) with
      | false => rfl
      | true => exact absurd ⟨a + j, by omega, by omega, hp⟩ h'
    rw [show a + (b - a) = b by omega] at this
    omega
theorem rot_inj {s N a b : Nat} (ha : a < N) (hb : b < N) (h : (s + a) % N = (s + b) % N) : a = b := by
  have h1 : (s + a) % N = (s % N + a) % N := by rw [Nat.add_mod, Nat.mod_eq_of_lt ha]
  have h2 : (s + b) % N = (s % N + b) % N := by rw [Nat.add_mod, Nat.mod_eq_of_lt hb]
  rw [h1, h2] at h
  have hs := Nat.mod_lt s (show 0 < N by omega)
  generalize s % N = t at *
  rcases Nat.lt_or_ge (t + a) N with h3 | h3 <;> rcases Nat.lt_or_ge (t + b) N with h4 | h4
  · rw [Nat.mod_eq_of_lt h3, Nat.mod_eq_of_lt h4] at h; omega
  · rw [Nat.mod_eq_of_lt h3, Nat.mod_eq_sub_mod h4, Nat.mod_eq_of_lt (by omega)] at h; omega
  · rw [Nat.mod_eq_sub_mod h3, Nat.mod_eq_of_lt (show t + a - N < N by omega), Nat.mod_eq_of_lt h4] at h; omega
  · rw [Nat.mod_eq_sub_mod h3, Nat.mod_eq_of_lt (show t + a - N < N by omega), Nat.mod_eq_sub_mod h4, Nat.mod_eq_of_lt (by omega)] at h; omega
end Go.Proofs.Ytkmkdodhahcpdaa
