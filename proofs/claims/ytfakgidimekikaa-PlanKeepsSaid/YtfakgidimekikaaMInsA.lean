/- Texts merged into one, for the number of files a claim may have: InsArg. -/
import Derived.Test.YtfakgidimekikaaMArgs
import Derived.Test.YtfakgidimekikaaMA
import Derived.Deep.Strs
namespace Go.Proofs.Ytfakgidimekikaa
open Go.RowKit Go.Fb Go.ChangeShapes Go.WideShapes Go.ChangeAt
variable {W : World} {H : Type} {enc : TypeId × Value → H} {base : Nat}
set_option maxRecDepth 100000 in
theorem ins_cells {n : Nat} {cs : List Value} {x : DataW H × List MemPlace} (h : DataW.trod enc Try.prog W 0 (fun _ => true) true n 44 cs = some x) : ∃ i : Int × Int, cs = insC i := by
  obtain ⟨y0, y1, m, _, hl, h0, h1⟩ := trod_struct2 Try.underlying44 h
  obtain ⟨a, e0, _⟩ := DataW.trod_int Try.underlying3 h0
  obtain ⟨b, e1, _⟩ := DataW.trod_int Try.underlying3 h1
  rw [show Try.prog.cellsOf 44 = 2 by kernel_rfl] at hl
  rw [show Try.prog.cellsOf 3 = 1 by kernel_rfl] at e0 e1
  match cs, hl with
  | [u, v], _ => simp at e0 e1; exact ⟨(a, b), by rw [e0, e1]; rfl⟩
theorem cellsI_inv {l : List (Int × Int)} {j : Nat} {u : Value} (h : (cellsI l)[j]? = some u) : ∃ x, l[j / 2]? = some x ∧ (insC x)[j % 2]? = some u := by
  have hj : j < (cellsI l).length := by
    rcases Nat.lt_or_ge j (cellsI l).length with h' | h'
    · exact h'
    · rw [List.getElem?_eq_none h'] at h; cases h
  rw [cellsI_length] at hj
  have hk : j / 2 < l.length := by omega
  refine ⟨l[j / 2], List.getElem?_eq_getElem hk, ?_⟩
  obtain ⟨h0, h1⟩ := cellsI_get (List.getElem?_eq_getElem hk)
  rcases (show j % 2 = 0 ∨ j % 2 = 1 by omega) with e | e
  · rw [e]
    rw [show j / 2 * 2 = j by omega, h] at h0
    rw [h0]; rfl
  · rw [e]
    rw [show j / 2 * 2 + 1 = j by omega, h] at h1
    rw [h1]; rfl
set_option maxRecDepth 100000 in
theorem arg_inss {v : Value} {d : DataW H} {p : List MemPlace} (hok : Value.okWide Try.prog W .any base 32 v) (h : DataW.Trod enc Try.prog W 0 (fun _ => true) true 32 v d p) :
    ∃ (a : Option Addr) (c : Nat) (l : List (Int × Int)), v = .slice a l.length c ∧ l.length ≤ c ∧ c ≤ maxLen ∧ Reads W W.heap.size 2 a l.length (cellsI l) := by
  obtain ⟨a0, len0, cap0, rfl⟩ := okWide_slice Try.underlying32 hok
  obtain ⟨fuel, hf⟩ := h
  rcases Deep.open_slice Try.underlying32 hf with ⟨hcs, _⟩ | ⟨a, len, cap, m, n, D, Pl, hcs, _, hl, hm, hmm, _, hx⟩
  · simp [Value.cells] at hcs
    obtain ⟨rfl, rfl, rfl⟩ := hcs
    exact ⟨none, 0, [], rfl, Nat.le_refl _, by simp [maxLen], Reads.none_⟩
  · simp [Value.cells] at hcs
    obtain ⟨rfl, rfl, rfl⟩ := hcs
    have hm' : m = cap0 := by simpa using hmm
    rw [show Try.prog.cellsOf 44 = 2 by kernel_rfl] at hx
    have key : ∀ i, ∃ f : Int × Int, i < m → W.cells? 0 (a.add (i * 2)) 2 = some (insC f) := fun i => by
      by_cases hi : i < m
      · obtain ⟨cs', h1, h2⟩ := hx i hi
        obtain ⟨f, rfl⟩ := ins_cells h2
        exact ⟨f, fun _ => h1⟩
      · exact ⟨(0, 0), fun h => absurd h hi⟩
    obtain ⟨F, hF⟩ := Classical.axiomOfChoice key
    refine ⟨some a, cap0, (List.range len0).map F, by simp, by simpa using hl, hm, ⟨cellsI_length _, fun hn => ?_⟩⟩
    have hn' : 0 < len0 := by simpa using hn
    have hcell : ∀ k j u, k < m → (insC (F k))[j]? = some u → W.cell? ((a.add (k * 2)).add j) = some u := fun k j u hk hu => by
      obtain ⟨_, _, hc⟩ := World.cells?_some (hF k hk)
      have hj : j < 2 := by
        rcases Nat.lt_or_ge j 2 with h | h
        · exact h
        · rw [List.getElem?_eq_none (by simpa [insC] using h)] at hu; cases hu
      rw [hc j hj, hu]
    have h0 := hcell 0 0 _ (by omega) rfl
    have h0' : W.cell? a = some (.int .i64 (F 0).1) := by simpa [Addr.add] using h0
    obtain ⟨b, off, rfl⟩ := addr_of_cell h0'
    refine ⟨b, off, rfl, World.block_lt_of_cell? W _ h0', fun j u hu => ?_⟩
    obtain ⟨f, hfk, hfe⟩ := cellsI_inv hu
    have hk : j / 2 < len0 := by
      rcases Nat.lt_or_ge (j / 2) len0 with h | h
      · exact h
      · rw [List.getElem?_eq_none (by simpa using h)] at hfk; cases hfk
    have hfF : F (j / 2) = f := by simpa [hk] using hfk
    rw [← hfF] at hfe
    have := hcell (j / 2) (j % 2) u (by omega) hfe
    have ad : ∀ (o i : Nat), (⟨b, o, none⟩ : Addr).add i = ⟨b, o + i, none⟩ := fun o i => by unfold Addr.add; split <;> simp_all
    rw [ad, ad, show off + j / 2 * 2 + j % 2 = off + j by omega] at this
    exact this
set_option maxRecDepth 100000 in
theorem arg_ins {v : Value} {d : DataW H} {p : List MemPlace} (hok : Value.okWide Try.prog W .any base 44 v) (_h : DataW.Trod enc Try.prog W 0 (fun _ => true) true 44 v d p) :
    ∃ i : Int × Int, v = .agg #[.int .i64 i.1, .int .i64 i.2] := by
  obtain ⟨cs, rfl, hs, hc⟩ := agg_cells (ts := [3, 3]) Try.underlying44 rfl (by kernel_rfl) (by kernel_rfl) hok
  obtain ⟨x0, e0, c0⟩ := hc 0 _ rfl
  obtain ⟨x1, e1, c1⟩ := hc 1 _ rfl
  obtain ⟨a, rfl, _⟩ := cell_int Try.underlying3 c0
  obtain ⟨b, rfl, _⟩ := cell_int Try.underlying3 c1
  refine ⟨(a, b), ?_⟩
  congr 1
  apply Array.ext_getElem?
  intro i
  match i with
  | 0 => exact e0
  | 1 => exact e1
  | j + 2 =>
    simp at hs
    rw [Array.getElem?_eq_none (by omega), Array.getElem?_eq_none (by simp)]
end Go.Proofs.Ytfakgidimekikaa
