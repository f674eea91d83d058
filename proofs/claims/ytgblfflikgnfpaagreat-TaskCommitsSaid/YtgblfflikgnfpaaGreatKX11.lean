/- Texts merged into one, for the number of files a claim may have: Args, OctetWrites. -/
import Derived.Test.YtgblfflikgnfpaaGreatKX3
import Derived.ChangeOld
import Derived.Lib.SmallJoins
import Derived.OpenShut
import Derived.ProofKit
import Derived.ShutString
namespace Go.Fb
open Go.ChangeShapes Go.WideShapes Go.ChangeAt Go.RowKit
open Go.ChangeMaps (open_string shut_string)

section
variable {H : Type} {enc : TypeId × Value → H} {P : Program} {W : World} {base : Nat}

theorem addr_of_cell {a : Addr} {v : Value} (h : W.cell? a = some v) : ∃ b off, a = ⟨b, off, none⟩ := by
  obtain ⟨b, off, s⟩ := a
  have := World.cell?_spot h
  exact ⟨b, off, by simpa using this⟩

/-- A cell that reads as a slice of ints. -/
theorem rd_ints {t e : TypeId} {k : IntKind} {fuel : Nat} {cs : List Value} {x : DataW H × List MemPlace} (ht : P.underlying t = some (.slice e)) (he : P.underlying e = some (.int k)) (hC : P.cellsOf e = 1)
    (hf : DataW.trod enc P W 0 (fun _ => true) true fuel t cs = some x) :
    ∃ (a : Option Addr) (n c : Nat) (xs : List Int), cs = [.slice a n c] ∧ n ≤ c ∧ c ≤ maxLen ∧ Reads W W.heap.size 1 a n (xs.map (Value.int k)) ∧ ∀ x ∈ xs, (Lit.int k x).wf = true := by
  rcases open_ints ht he hC hf with ⟨hcs, _⟩ | ⟨x, l, c, zs, hcs, _, hl, hm, hz, _, hcell, hwz⟩
  · exact ⟨none, 0, 0, [], hcs, Nat.le_refl _, by simp [maxLen], Reads.none_, by simp⟩
  · have hz' : zs.length = c := by simpa using hz
    refine ⟨_, l, c, zs.take l, hcs, hl, hm, ⟨by simp; omega, fun hn => ?_⟩, fun y hy => hwz y (List.mem_of_mem_take hy)⟩
    have h0 := hcell 0 (by omega)
    have h0' : W.cell? x = some (.int k (zs.getD 0 0)) := by simpa [Addr.add] using h0
    obtain ⟨b, off, rfl⟩ := addr_of_cell h0'
    refine ⟨b, off, rfl, World.block_lt_of_cell? W _ h0', fun j u hu => ?_⟩
    rw [List.getElem?_map, List.getElem?_take] at hu
    split at hu
    · rename_i hj
      have hj' : j < zs.length := by omega
      rw [List.getElem?_eq_getElem hj'] at hu
      have hu' : Value.int k zs[j] = u := by simpa using hu
      have hc := hcell j hj'
      have e1 : (⟨b, off, none⟩ : Addr).add j = ⟨b, off + j, none⟩ := by unfold Addr.add; split <;> simp_all
      rw [e1] at hc
      rw [hc, ← hu']
      simp [List.getD, List.getElem?_eq_getElem hj']
    · simp at hu
theorem arg_ints {t e : TypeId} {k : IntKind} {v : Value} {d : DataW H} {p : List MemPlace} (ht : P.underlying t = some (.slice e)) (he : P.underlying e = some (.int k)) (hC : P.cellsOf e = 1) (hok : Value.okWide P W .any base t v)
    (h : DataW.Trod enc P W 0 (fun _ => true) true t v d p) :
    ∃ (a : Option Addr) (n c : Nat) (xs : List Int), v = .slice a n c ∧ n ≤ c ∧ c ≤ maxLen ∧ Reads W W.heap.size 1 a n (xs.map (Value.int k)) ∧ ∀ x ∈ xs, (Lit.int k x).wf = true := by
  obtain ⟨a0, len0, cap0, rfl⟩ := okWide_slice ht hok
  obtain ⟨fuel, hf⟩ := h
  obtain ⟨a, n, c, xs, hcs, r⟩ := rd_ints ht he hC hf
  simp [Value.cells] at hcs
  obtain ⟨rfl, rfl, rfl⟩ := hcs
  exact ⟨_, _, _, xs, rfl, r⟩
end
end Go.Fb
namespace Go.Proofs.YtgblfflikgnfpaaGreat
open Go.RowKit Go.Fb

theorem fourU_be (n : Int) (l : List Int) : fourU (be n ++ l) 4 = n % 4294967296 := by
  simp [fourU, be]
  omega
theorem fourI_be {n : Int} (h : ofitsB n = true) : fourI (n % 4294967296) = n := by
  obtain ⟨h1, h2⟩ : -2147483648 ≤ n ∧ n ≤ 2147483647 := of_decide_eq_true h
  unfold fourI
  split <;> omega
end Go.Proofs.YtgblfflikgnfpaaGreat
