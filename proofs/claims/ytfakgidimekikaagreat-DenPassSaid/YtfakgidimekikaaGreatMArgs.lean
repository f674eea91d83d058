/- Texts merged into one, for the number of files a claim may have: Args. -/
import Derived.Test.YtfakgidimekikaaGreatMA
import Derived.ProofKit
import Derived.OpenShut
import Derived.ShutString
import Derived.ChangeOld
import Derived.Lib.SmallJoins
namespace Go.Fb
open Go.ChangeShapes Go.WideShapes Go.ChangeAt Go.RowKit
open Go.ChangeMaps (open_string shut_string)

section
variable {H : Type} {enc : TypeId × Value → H} {P : Program} {W : World} {base : Nat}

theorem addr_of_cell {a : Addr} {v : Value} (h : W.cell? a = some v) : ∃ b off, a = ⟨b, off, none⟩ := by
  obtain ⟨b, off, s⟩ := a
  have := World.cell?_spot h
  exact ⟨b, off, by simpa using this⟩

/-- A cell that reads as a slice of ints. -/
theorem rd_ints {t e : TypeId} {k : IntKind} {fuel : Nat} {cs : List Value} {x : DataW H × List MemPlace} (ht : P.underlying t = some (.slice e)) (he : P.underlying e = some (.int k)) (hC : P.cellsOf e = 1)
    (hf : DataW.trod enc P W 0 (fun _ => true) true fuel t cs = some x) :
    ∃ (a : Option Addr) (n c : Nat) (xs : List Int), cs = [.slice a n c] ∧ n ≤ c ∧ c ≤ maxLen ∧ Reads W W.heap.size 1 a n (xs.map (Value.int k)) ∧ ∀ x ∈ xs, (Lit.int k x).wf = true := by
  rcases open_ints ht he hC hf with ⟨hcs, _⟩ | ⟨x, l, c, zs, hcs, _, hl, hm, hz, _, hcell, hwz⟩
  · exact ⟨none, 0, 0, [], hcs, Nat.le_refl _, by simp [maxLen], Reads.none_, by simp⟩
  · have hz' : zs.length = c := by simpa using hz
    refine ⟨_, l, c, zs.take l, hcs, hl, hm, ⟨by simp; omega, fun hn => ?_⟩, fun y hy => hwz y (List.mem_of_mem_take hy)⟩
    have h0 := hcell 0 (by omega)
    have h0' : W.cell? x = some (.int k (zs.getD 0 0)) := by simpa [Addr.add] using h0
    obtain ⟨b, off, rfl⟩ := addr_of_cell h0'
    refine ⟨b, off, rfl, World.block_lt_of_cell? W _ h0', fun j u hu => ?_⟩
    rw [List.getElem?_map, List.getElem?_take] at hu
    split at hu
    · rename_i hj
      have hj' : j < zs.length := by omega
      rw [List.getElem?_eq_getElem hj'] at hu
      have hu' : Value.int k zs[j] = u := by simpa using hu
      have hc := hcell j hj'
      have e1 : (⟨b, off, none⟩ : Addr).add j = ⟨b, off + j, none⟩ := by unfold Addr.add; split <;> simp_all
      rw [e1] at hc
      rw [hc, ← hu']
      simp [List.getD, List.getElem?_eq_getElem hj']
    · simp at hu
theorem arg_ints {t e : TypeId} {k : IntKind} {v : Value} {d : DataW H} {p : List MemPlace} (ht : P.underlying t = some (.slice e)) (he : P.underlying e = some (.int k)) (hC : P.cellsOf e = 1) (hok : Value.okWide P W .any base t v)
    (h : DataW.Trod enc P W 0 (fun _ => true) true t v d p) :
    ∃ (a : Option Addr) (n c : Nat) (xs : List Int), v = .slice a n c ∧ n ≤ c ∧ c ≤ maxLen ∧ Reads W W.heap.size 1 a n (xs.map (Value.int k)) ∧ ∀ x ∈ xs, (Lit.int k x).wf = true := by
  obtain ⟨a0, len0, cap0, rfl⟩ := okWide_slice ht hok
  obtain ⟨fuel, hf⟩ := h
  obtain ⟨a, n, c, xs, hcs, r⟩ := rd_ints ht he hC hf
  simp [Value.cells] at hcs
  obtain ⟨rfl, rfl, rfl⟩ := hcs
  exact ⟨_, _, _, xs, rfl, r⟩
/-- A struct of a slice of ints and an int, by value. -/
theorem arg_ints_int {t ts e ti : TypeId} {f0 f1 : Field} {k : IntKind} {v : Value} {d : DataW H} {p : List MemPlace} (hs : P.underlying t = some (.struct #[f0, f1])) (hone : Deep.oneCellFields P #[f0, f1] = true) (hC2 : P.cellsOf t = 2)
    (h0 : f0.type = ts) (h1 : f1.type = ti) (ht : P.underlying ts = some (.slice e)) (he : P.underlying e = some (.int k)) (hC : P.cellsOf e = 1) (hti : P.underlying ti = some (.int k))
    (hok : Value.okWide P W .any base t v) (h : DataW.Trod enc P W 0 (fun _ => true) true t v d p) :
    ∃ (a : Option Addr) (n c : Nat) (xs : List Int) (y : Int), v = .agg #[.slice a n c, .int k y] ∧ n ≤ c ∧ c ≤ maxLen ∧ Reads W W.heap.size 1 a n (xs.map (Value.int k)) ∧ (∀ x ∈ xs, (Lit.int k x).wf = true) ∧ (Lit.int k y).wf = true := by
  obtain ⟨v0, v1, y0, y1, m, rfl, _, _, g0, g1⟩ := Joins.open_agg2 hs hone hC2 hok h
  rw [h0] at g0
  rw [h1] at g1
  obtain ⟨a, n, c, xs, hcs, r1, r2, r3, r4⟩ := rd_ints ht he hC g0
  obtain ⟨y, hy, _, wy⟩ := DataW.trod_int hti g1
  simp at hcs hy
  subst hcs
  subst hy
  exact ⟨a, n, c, xs, y, rfl, r1, r2, r3, r4, wy⟩

theorem arg_int {t : TypeId} {k : IntKind} {v : Value} {d : DataW H} {p : List MemPlace} (ht : P.underlying t = some (.int k)) (hok : Value.okWide P W .any base t v)
    (h : DataW.Trod enc P W 0 (fun _ => true) true t v d p) : ∃ x, v = .int k x ∧ (Lit.int k x).wf = true := by
  obtain ⟨x, rfl, rfl, rfl, wx⟩ := open_int ht hok h
  exact ⟨x, rfl, wx⟩
theorem arg_bool {t : TypeId} {v : Value} {d : DataW H} {p : List MemPlace} (ht : P.underlying t = some .bool) (hok : Value.okWide P W .any base t v)
    (h : DataW.Trod enc P W 0 (fun _ => true) true t v d p) : ∃ x, v = .bool x := by
  obtain ⟨x, rfl, rfl, rfl⟩ := open_bool ht hok h
  exact ⟨x, rfl⟩
theorem arg_string {t : TypeId} {v : Value} {d : DataW H} {p : List MemPlace} (ht : P.underlying t = some .string) (hok : Value.okWide P W .any base t v)
    (h : DataW.Trod enc P W 0 (fun _ => true) true t v d p) : ∃ s : ByteArray, v = .string s ∧ s.size ≤ maxLen := by
  obtain ⟨s, rfl, rfl, rfl, hs⟩ := open_string ht hok h
  exact ⟨s, rfl, hs⟩

def isAggD : TypeDesc → Bool
  | .struct _ | .array _ _ => true
  | _ => false
/-- The cells of an aggregate that came in, each of its own type. -/
theorem agg_cells {t : TypeId} {d : TypeDesc} {ts : List TypeId} {v : Value} (hu : P.underlying t = some d) (hd : isAggD d = true)
    (hts : P.cellTypes P.depth t = some ts) (hC : P.cellsOf t = ts.length) (hok : Value.okWide P W .any base t v) :
    ∃ cs : Array Value, v = .agg cs ∧ cs.size = ts.length ∧ ∀ (i : Nat) (u : TypeId), ts[i]? = some u → ∃ x : Value, cs[i]? = some x ∧ Cell.okWide P W .any base u x := by
  have key : ∃ cs, v = .agg cs ∧ cs.size = P.cellsOf t ∧ Row.okWide P W .any base t cs := by
    unfold Value.okWide at hok
    rw [hu] at hok
    cases d <;> first | exact hok | cases hd
  obtain ⟨cs, rfl, hs, ts', hts', _, hc⟩ := key
  rw [hts] at hts'
  injection hts' with hts'
  subst hts'
  refine ⟨cs, rfl, hs.trans hC, fun i u hi => ?_⟩
  have hlt : i < ts.length := by
    rcases Nat.lt_or_ge i ts.length with h | h
    · exact h
    · rw [List.getElem?_eq_none h] at hi; cases hi
  have hlt' : i < cs.size := by rw [hs, hC]; exact hlt
  refine ⟨cs[i], Array.getElem?_eq_getElem hlt', ?_⟩
  obtain ⟨u', hu', hcell⟩ := hc i cs[i] (Array.getElem?_eq_getElem hlt')
  rw [Nat.mod_eq_of_lt hlt, hi] at hu'
  injection hu' with hu'
  subst hu'
  exact hcell
theorem cell_int {t : TypeId} {k : IntKind} {v : Value} (ht : P.underlying t = some (.int k)) (h : Cell.okWide P W .any base t v) : ∃ x, v = .int k x ∧ (Lit.int k x).wf = true := by
  simp only [Cell.okWide, ht] at h
  cases v <;> simp only [Cell.ok, ht] at h
  obtain ⟨rfl, h2⟩ := h
  exact ⟨_, rfl, by simpa [Lit.wf, IntKind.has] using h2⟩
theorem agg_ints {t e : TypeId} {d : TypeDesc} {k : IntKind} {n : Nat} {v : Value} (hu : P.underlying t = some d) (hd : isAggD d = true) (he : P.underlying e = some (.int k))
    (hts : P.cellTypes P.depth t = some (List.replicate n e)) (hC : P.cellsOf t = n) (hok : Value.okWide P W .any base t v) :
    ∃ f : Nat → Int, v = .agg ((List.range n).map fun j => Value.int k (f j)).toArray ∧ ∀ j, j < n → (Lit.int k (f j)).wf = true := by
  obtain ⟨cs, rfl, hs, hc⟩ := agg_cells hu hd hts (by simpa using hC) hok
  have hs' : cs.size = n := by simpa using hs
  have key : ∀ j, ∃ x, j < n → cs[j]? = some (.int k x) ∧ (Lit.int k x).wf = true := by
    intro j
    by_cases hj : j < n
    · obtain ⟨x, hx, hcx⟩ := hc j e (by simp [hj])
      obtain ⟨y, rfl, wy⟩ := cell_int he hcx
      exact ⟨y, fun _ => ⟨hx, wy⟩⟩
    · exact ⟨0, fun h => absurd h hj⟩
  obtain ⟨f, hf⟩ := Classical.axiomOfChoice key
  refine ⟨f, ?_, fun j hj => (hf j hj).2⟩
  congr 1
  apply Array.ext
  · simp [hs']
  · intro j h1 h2
    have hj : j < n := by omega
    have := (hf j hj).1
    rw [Array.getElem?_eq_getElem h1] at this
    injection this with this
    simp [this]
end
end Go.Fb
