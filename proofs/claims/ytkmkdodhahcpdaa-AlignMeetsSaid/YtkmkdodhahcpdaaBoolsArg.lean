/- A list of lists of bools that came in. -/
import Derived.Test.YtkmkdodhahcpdaaArgs
import Derived.Test.YtkmkdodhahcpdaaMeetsA
import Derived.Deep.Slices
namespace Go.Proofs.Ytkmkdodhahcpdaa
open Go.RowKit Go.Fb Go.ChangeShapes Go.WideShapes Go.ChangeAt
variable {W : World} {H : Type} {enc : TypeId × Value → H} {base : Nat} {P : Program}
theorem trod_bool_inv {e : TypeId} {n : Nat} {v : Value} {x : DataW H × List MemPlace} (he : P.underlying e = some .bool) (h : DataW.trod enc P W 0 (fun _ => true) true n e [v] = some x) : ∃ b, v = .bool b := by
  cases n with
  | zero => simp [DataW.trod] at h
  | succ m =>
    unfold DataW.trod at h
    rw [he] at h
    cases v <;> simp_all
theorem rd_bools {t e : TypeId} {fuel : Nat} {cs : List Value} {x : DataW H × List MemPlace} (ht : P.underlying t = some (.slice e)) (he : P.underlying e = some .bool) (hC : P.cellsOf e = 1)
    (hf : DataW.trod enc P W 0 (fun _ => true) true fuel t cs = some x) :
    ∃ (a : Option Addr) (c : Nat) (xs : List Bool), cs = [.slice a xs.length c] ∧ xs.length ≤ c ∧ c ≤ maxLen ∧ Reads W W.heap.size 1 a xs.length (xs.map Value.bool) := by
  rcases Deep.open_slice1 ht hC hf with ⟨rfl, _⟩ | ⟨a, len, cap, m, n, V, D, Pl, rfl, _, hl, hm, hmm, _, hx⟩
  · exact ⟨none, 0, [], rfl, Nat.le_refl _, by simp [maxLen], Reads.none_⟩
  · have hm' : m = cap := by simpa using hmm
    obtain ⟨f, hff⟩ : ∃ f : Nat → Bool, ∀ i, i < m → V i = .bool (f i) := by
      have : ∀ i, ∃ b, i < m → V i = .bool b := fun i => by
        by_cases hi : i < m
        · obtain ⟨b, hb⟩ := trod_bool_inv he (hx i hi).2
          exact ⟨b, fun _ => hb⟩
        · exact ⟨false, fun h => absurd h hi⟩
      exact Classical.axiomOfChoice this
    refine ⟨some a, cap, (List.range len).map f, by simp, by simpa using hl, hm, ⟨by simp, fun hn => ?_⟩⟩
    have hn' : 0 < len := by simpa using hn
    have h0 := (hx 0 (by omega)).1
    rw [hff 0 (by omega)] at h0
    have h0' : W.cell? a = some (.bool (f 0)) := by simpa [Addr.add] using h0
    obtain ⟨b, off, rfl⟩ := addr_of_cell h0'
    refine ⟨b, off, rfl, World.block_lt_of_cell? W _ h0', fun j u hu => ?_⟩
    have hj : j < len := by
      rcases Nat.lt_or_ge j len with h | h
      · exact h
      · rw [List.getElem?_eq_none (by simpa using h)] at hu; cases hu
    have hc := (hx j (by omega)).1
    rw [hff j (by omega)] at hc
    have e1 : (⟨b, off, none⟩ : Addr).add j = ⟨b, off + j, none⟩ := by unfold Addr.add; split <;> simp_all
    rw [e1] at hc
    simp [hj] at hu
    rw [← hu]
    simpa using hc
theorem arg_bools2 {t e e2 : TypeId} {v : Value} {d : DataW H} {p : List MemPlace} (ht : P.underlying t = some (.slice e)) (he : P.underlying e = some (.slice e2)) (hC : P.cellsOf e = 1) (he2 : P.underlying e2 = some .bool) (hC2 : P.cellsOf e2 = 1) (hok : Value.okWide P W .any base t v)
    (h : DataW.Trod enc P W 0 (fun _ => true) true t v d p) :
    ∃ (a : Option Addr) (n c : Nat) (K : Nat → List Bool), v = .slice a n c ∧ n ≤ c ∧ c ≤ maxLen ∧ Rows2 W W.heap.size a n K := by
  obtain ⟨a0, len0, cap0, rfl⟩ := okWide_slice ht hok
  obtain ⟨fuel, hf⟩ := h
  rcases Deep.open_slice1 ht hC hf with ⟨hcs, _⟩ | ⟨a, len, cap, m, n, V, D, Pl, hcs, _, hl, hm, hmm, _, hx⟩
  · simp [Value.cells] at hcs
    obtain ⟨rfl, rfl, rfl⟩ := hcs
    exact ⟨none, 0, 0, fun _ => [], rfl, Nat.le_refl _, by simp [maxLen], fun c hc => by omega⟩
  · simp [Value.cells] at hcs
    obtain ⟨rfl, rfl, rfl⟩ := hcs
    have hm' : m = cap0 := by simpa using hmm
    have key : ∀ i, ∃ (r : List Bool × (Option Addr × Nat)), i < m → V i = .slice r.2.1 r.1.length r.2.2 ∧ r.1.length ≤ r.2.2 ∧ r.2.2 ≤ maxLen ∧ Reads W W.heap.size 1 r.2.1 r.1.length (r.1.map Value.bool) := fun i => by
      by_cases hi : i < m
      · obtain ⟨Ac, cc, xs, h1, h2, h3, h4⟩ := rd_bools he he2 hC2 (hx i hi).2
        simp at h1
        exact ⟨(xs, (Ac, cc)), fun _ => ⟨h1, h2, h3, h4⟩⟩
      · exact ⟨([], (none, 0)), fun h => absurd h hi⟩
    obtain ⟨F, hF⟩ := Classical.axiomOfChoice key
    refine ⟨some a, len0, cap0, fun i => (F i).1, rfl, hl, hm, fun c hc => ?_⟩
    obtain ⟨h1, h2, h3, h4⟩ := hF c (by omega)
    have h0 := (hx c (by omega)).1
    obtain ⟨b, off, hab⟩ : ∃ b off, a = ⟨b, off, none⟩ := by
      have h0' := (hx 0 (by omega)).1
      have h0'' : W.cell? a = some (V 0) := by simpa [Addr.add] using h0'
      exact addr_of_cell h0''
    subst hab
    have e1 : (⟨b, off, none⟩ : Addr).add c = ⟨b, off + c, none⟩ := by unfold Addr.add; split <;> simp_all
    rw [e1, h1] at h0
    exact ⟨b, off, (F c).2.1, (F c).2.2, rfl, World.block_lt_of_cell? W _ h0, h0, h2, h3, h4⟩
end Go.Proofs.Ytkmkdodhahcpdaa
