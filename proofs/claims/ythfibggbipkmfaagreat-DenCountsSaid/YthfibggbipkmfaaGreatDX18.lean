/- Texts merged into one, for the number of files a claim may have: RecsArg. -/
import Derived.Test.YthfibggbipkmfaaGreatDX7
import Derived.Test.YthfibggbipkmfaaGreatDX16
import Derived.Deep.Strs
namespace Go.Proofs.YthfibggbipkmfaaGreat
open Go.RowKit Go.Fb Go.ChangeShapes Go.WideShapes Go.ChangeAt
variable {W : World} {H : Type} {enc : TypeId × Value → H} {base : Nat}
set_option maxRecDepth 100000 in
theorem val_cells {n : Nat} {cs : List Value} {x : DataW H × List MemPlace} (h : DataW.trod enc Tryz.prog W 0 (fun _ => true) true n 42 cs = some x) : ∃ a b : Int, cs = [.int .i64 a, .int .i64 b] := by
  obtain ⟨y0, y1, m, _, hl, h0, h1⟩ := trod_struct2 Tryz.underlying42 h
  obtain ⟨a, e0, _⟩ := DataW.trod_int Tryz.underlying3 h0
  obtain ⟨b, e1, _⟩ := DataW.trod_int Tryz.underlying3 h1
  rw [show Tryz.prog.cellsOf 42 = 2 by kernel_rfl] at hl
  rw [show Tryz.prog.cellsOf 3 = 1 by kernel_rfl] at e0 e1
  match cs, hl with
  | [u, v], _ => simp at e0 e1; exact ⟨a, b, by rw [e0, e1]⟩
set_option maxRecDepth 100000 in
theorem rec_cells {n : Nat} {cs : List Value} {x : DataW H × List MemPlace} (h : DataW.trod enc Tryz.prog W 0 (fun _ => true) true n 56 cs = some x) : ∃ f : Nat → Int, cs = recC f := by
  obtain ⟨y0, y1, m, _, hl, h0, h1⟩ := trod_struct2 Tryz.underlying56 h
  obtain ⟨a, e0, _⟩ := DataW.trod_int Tryz.underlying3 h0
  obtain ⟨c, d, e1⟩ := val_cells h1
  rw [show Tryz.prog.cellsOf 56 = 3 by kernel_rfl] at hl
  rw [show Tryz.prog.cellsOf 3 = 1 by kernel_rfl] at e0
  rw [show Tryz.prog.cellsOf 42 = 2 by kernel_rfl] at e1
  match cs, hl with
  | [u0, u1, u2], _ =>
    simp at e0 e1
    exact ⟨fun j => [a, c, d].getD j 0, by simp [recC, e0, e1]⟩
theorem cellsR_inv {l : List (Nat → Int)} {j : Nat} {u : Value} (h : (cellsR l)[j]? = some u) : ∃ x, l[j / 3]? = some x ∧ (recC x)[j % 3]? = some u := by
  have hj : j < (cellsR l).length := by
    rcases Nat.lt_or_ge j (cellsR l).length with h' | h'
    · exact h'
    · rw [List.getElem?_eq_none h'] at h; cases h
  rw [cellsR_length] at hj
  have hk : j / 3 < l.length := by omega
  refine ⟨l[j / 3], List.getElem?_eq_getElem hk, ?_⟩
  have := cellsR_get (List.getElem?_eq_getElem hk) (j % 3) (Nat.mod_lt _ (by omega))
  rw [show j / 3 * 3 + j % 3 = j by omega, h] at this
  rw [recC_get _ _ (Nat.mod_lt _ (by omega)), this]
set_option maxRecDepth 100000 in
theorem arg_recs {v : Value} {d : DataW H} {p : List MemPlace} (hok : Value.okWide Tryz.prog W .any base 23 v) (h : DataW.Trod enc Tryz.prog W 0 (fun _ => true) true 23 v d p) :
    ∃ (a : Option Addr) (c : Nat) (l : List (Nat → Int)), v = .slice a l.length c ∧ l.length ≤ c ∧ c ≤ maxLen ∧ Reads W W.heap.size 3 a l.length (cellsR l) := by
  obtain ⟨a0, len0, cap0, rfl⟩ := okWide_slice Tryz.underlying23 hok
  obtain ⟨fuel, hf⟩ := h
  rcases Deep.open_slice Tryz.underlying23 hf with ⟨hcs, _⟩ | ⟨a, len, cap, m, n, D, Pl, hcs, _, hl, hm, hmm, _, hx⟩
  · simp [Value.cells] at hcs
    obtain ⟨rfl, rfl, rfl⟩ := hcs
    exact ⟨none, 0, [], rfl, Nat.le_refl _, by simp [maxLen], Reads.none_⟩
  · simp [Value.cells] at hcs
    obtain ⟨rfl, rfl, rfl⟩ := hcs
    have hm' : m = cap0 := by simpa using hmm
    rw [show Tryz.prog.cellsOf 56 = 3 by kernel_rfl] at hx
    have key : ∀ i, ∃ f : Nat → Int, i < m → W.cells? 0 (a.add (i * 3)) 3 = some (recC f) := fun i => by
      by_cases hi : i < m
      · obtain ⟨cs', h1, h2⟩ := hx i hi
        obtain ⟨f, rfl⟩ := rec_cells h2
        exact ⟨f, fun _ => h1⟩
      · exact ⟨fun _ => 0, fun h => absurd h hi⟩
    obtain ⟨F, hF⟩ := Classical.axiomOfChoice key
    refine ⟨some a, cap0, (List.range len0).map F, by simp, by simpa using hl, hm, ⟨cellsR_length _, fun hn => ?_⟩⟩
    have hn' : 0 < len0 := by simpa using hn
    have hcell : ∀ k j, k < m → j < 3 → W.cell? ((a.add (k * 3)).add j) = some (.int .i64 (F k j)) := fun k j hk hj => by
      obtain ⟨_, _, hc⟩ := World.cells?_some (hF k hk)
      rw [hc j hj, recC_get _ j hj]
    have h0 := hcell 0 0 (by omega) (by omega)
    have h0' : W.cell? a = some (.int .i64 (F 0 0)) := by simpa [Addr.add] using h0
    obtain ⟨b, off, rfl⟩ := addr_of_cell h0'
    refine ⟨b, off, rfl, World.block_lt_of_cell? W _ h0', fun j u hu => ?_⟩
    obtain ⟨f, hfk, hfe⟩ := cellsR_inv hu
    have hk : j / 3 < len0 := by
      rcases Nat.lt_or_ge (j / 3) len0 with h | h
      · exact h
      · rw [List.getElem?_eq_none (by simpa using h)] at hfk; cases hfk
    have hfF : F (j / 3) = f := by simpa [hk] using hfk
    rw [recC_get _ _ (Nat.mod_lt _ (by omega))] at hfe
    injection hfe with hfe
    have := hcell (j / 3) (j % 3) (by omega) (Nat.mod_lt _ (by omega))
    have ad : ∀ (o i : Nat), (⟨b, o, none⟩ : Addr).add i = ⟨b, o + i, none⟩ := fun o i => by unfold Addr.add; split <;> simp_all
    rw [ad, ad, show off + j / 3 * 3 + j % 3 = off + j by omega, hfF, hfe] at this
    exact this
end Go.Proofs.YthfibggbipkmfaaGreat
