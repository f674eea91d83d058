/- How a law's arguments, read as the row reads them, come to stand as the walks take them. No program in sight. -/
import Derived.Test.YtkmkdodhahcpdaaW
import Derived.ProofKit
import Derived.OpenShut
import Derived.ShutString
import Derived.ChangeOld
namespace Go.Fb
open Go.ChangeShapes Go.WideShapes Go.ChangeAt Go.RowKit
open Go.ChangeMaps (open_string shut_string)

section
variable {H : Type} {enc : TypeId × Value → H} {P : Program} {W : World} {base : Nat}

theorem addr_of_cell {a : Addr} {v : Value} (h : W.cell? a = some v) : ∃ b off, a = ⟨b, off, none⟩ := by
  obtain ⟨b, off, s⟩ := a
  have := World.cell?_spot h
  exact ⟨b, off, by simpa using this⟩

theorem arg_ints {t e : TypeId} {k : IntKind} {v : Value} {d : DataW H} {p : List MemPlace} (ht : P.underlying t = some (.slice e)) (he : P.underlying e = some (.int k)) (hC : P.cellsOf e = 1) (hok : Value.okWide P W .any base t v)
    (h : DataW.Trod enc P W 0 (fun _ => true) true t v d p) :
    ∃ (a : Option Addr) (n c : Nat) (xs : List Int), v = .slice a n c ∧ n ≤ c ∧ c ≤ maxLen ∧ Reads W W.heap.size 1 a n (xs.map (Value.int k)) ∧ ∀ x ∈ xs, (Lit.int k x).wf = true := by
  obtain ⟨a0, len0, cap0, rfl⟩ := okWide_slice ht hok
  obtain ⟨fuel, hf⟩ := h
  rcases open_ints ht he hC hf with ⟨hcs, _⟩ | ⟨x, l, c, zs, hcs, _, hl, hm, hz, _, hcell, hwz⟩
  · simp [Value.cells] at hcs
    obtain ⟨rfl, rfl, rfl⟩ := hcs
    exact ⟨none, 0, 0, [], rfl, Nat.le_refl _, by simp [maxLen], Reads.none_, by simp⟩
  · simp [Value.cells] at hcs
    obtain ⟨rfl, rfl, rfl⟩ := hcs
    have hz' : zs.length = cap0 := by simpa using hz
    refine ⟨_, len0, cap0, zs.take len0, rfl, hl, hm, ⟨by simp; omega, fun hn => ?_⟩, fun y hy => hwz y (List.mem_of_mem_take hy)⟩
    have h0 := hcell 0 (by omega)
    have h0' : W.cell? x = some (.int k (zs.getD 0 0)) := by simpa [Addr.add] using h0
    obtain ⟨b, off, rfl⟩ := addr_of_cell h0'
    refine ⟨b, off, rfl, World.block_lt_of_cell? W _ h0', fun j u hu => ?_⟩
    rw [List.getElem?_map, List.getElem?_take] at hu
    split at hu
    · rename_i hj
      have hj' : j < zs.length := by omega
      rw [List.getElem?_eq_getElem hj'] at hu
      have hu' : Value.int k zs[j] = u := by simpa using hu
      have hc := hcell j hj'
      have e1 : (⟨b, off, none⟩ : Addr).add j = ⟨b, off + j, none⟩ := by unfold Addr.add; split <;> simp_all
      rw [e1] at hc
      rw [hc, ← hu']
      simp [List.getD, List.getElem?_eq_getElem hj']
    · simp at hu

theorem arg_int {t : TypeId} {k : IntKind} {v : Value} {d : DataW H} {p : List MemPlace} (ht : P.underlying t = some (.int k)) (hok : Value.okWide P W .any base t v)
    (h : DataW.Trod enc P W 0 (fun _ => true) true t v d p) : ∃ x, v = .int k x ∧ (Lit.int k x).wf = true := by
  obtain ⟨x, rfl, rfl, rfl, wx⟩ := open_int ht hok h
  exact ⟨x, rfl, wx⟩
theorem arg_bool {t : TypeId} {v : Value} {d : DataW H} {p : List MemPlace} (ht : P.underlying t = some .bool) (hok : Value.okWide P W .any base t v)
    (h : DataW.Trod enc P W 0 (fun _ => true) true t v d p) : ∃ x, v = .bool x := by
  obtain ⟨x, rfl, rfl, rfl⟩ := open_bool ht hok h
  exact ⟨x, rfl⟩
theorem arg_string {t : TypeId} {v : Value} {d : DataW H} {p : List MemPlace} (ht : P.underlying t = some .string) (hok : Value.okWide P W .any base t v)
    (h : DataW.Trod enc P W 0 (fun _ => true) true t v d p) : ∃ s : ByteArray, v = .string s ∧ s.size ≤ maxLen := by
  obtain ⟨s, rfl, rfl, rfl, hs⟩ := open_string ht hok h
  exact ⟨s, rfl, hs⟩
end
end Go.Fb
