/- Texts merged into one, for the number of files a claim may have: EntArg. -/
import Derived.Test.YtfakgidimekikaaGreatMArgs
import Derived.Test.YtfakgidimekikaaGreatMEnt
import Derived.Deep.Strs
namespace Go.Proofs.YtfakgidimekikaaGreat
open Go.RowKit Go.Fb Go.ChangeShapes Go.WideShapes Go.ChangeAt
variable {W : World} {H : Type} {enc : TypeId × Value → H} {base : Nat}
set_option maxRecDepth 100000 in
theorem val_cells {n : Nat} {cs : List Value} {x : DataW H × List MemPlace} (h : DataW.trod enc Tryz.prog W 0 (fun _ => true) true n 24 cs = some x) : ∃ a b : Int, cs = [.int .i64 a, .int .i64 b] := by
  obtain ⟨y0, y1, m, _, hl, h0, h1⟩ := trod_struct2 Tryz.underlying24 h
  obtain ⟨a, e0, _⟩ := DataW.trod_int Tryz.underlying3 h0
  obtain ⟨b, e1, _⟩ := DataW.trod_int Tryz.underlying3 h1
  rw [show Tryz.prog.cellsOf 24 = 2 by kernel_rfl] at hl
  rw [show Tryz.prog.cellsOf 3 = 1 by kernel_rfl] at e0 e1
  match cs, hl with
  | [u, v], _ => simp at e0 e1; exact ⟨a, b, by rw [e0, e1]⟩
set_option maxRecDepth 100000 in
theorem ent_cells {n : Nat} {cs : List Value} {x : DataW H × List MemPlace} (h : DataW.trod enc Tryz.prog W 0 (fun _ => true) true n 97 cs = some x) : ∃ f : Nat → Int, cs = entC f := by
  obtain ⟨y0, y1, y2, m, _, hl, h0, h1, h2⟩ := Deep.trod_struct3 Tryz.underlying97 h
  obtain ⟨a, e0, _⟩ := DataW.trod_int Tryz.underlying3 h0
  obtain ⟨b, e1, _⟩ := DataW.trod_int Tryz.underlying3 h1
  obtain ⟨xs, m', _, _, _, hx, hi⟩ := DataW.trod_array Tryz.underlying95 h2
  rw [show Tryz.prog.cellsOf 97 = 6 by kernel_rfl] at hl
  rw [show Tryz.prog.cellsOf 3 = 1 by kernel_rfl] at e0 e1
  have i0 := hi 0 (by omega)
  have i1 := hi 1 (by omega)
  match xs, hx with
  | [z0, z1], _ =>
    obtain ⟨c, d, e2⟩ := val_cells i0
    obtain ⟨e, f, e3⟩ := val_cells i1
    rw [show Tryz.prog.cellsOf 95 = 4 by kernel_rfl, show Tryz.prog.cellsOf 24 = 2 by kernel_rfl] at e2 e3
    match cs, hl with
    | [u0, u1, u2, u3, u4, u5], _ =>
      simp at e0 e1 e2 e3
      exact ⟨fun j => [a, b, c, d, e, f].getD j 0, by simp [entC, e0, e1, e2, e3]⟩
theorem cellsE_inv {l : List (Nat → Int)} {j : Nat} {u : Value} (h : (cellsE l)[j]? = some u) : ∃ x, l[j / 6]? = some x ∧ (entC x)[j % 6]? = some u := by
  have hj : j < (cellsE l).length := by
    rcases Nat.lt_or_ge j (cellsE l).length with h' | h'
    · exact h'
    · rw [List.getElem?_eq_none h'] at h; cases h
  rw [cellsE_length] at hj
  have hk : j / 6 < l.length := by omega
  refine ⟨l[j / 6], List.getElem?_eq_getElem hk, ?_⟩
  have := cellsE_get (List.getElem?_eq_getElem hk) (j % 6) (Nat.mod_lt _ (by omega))
  rw [show j / 6 * 6 + j % 6 = j by omega, h] at this
  rw [entC_get _ _ (Nat.mod_lt _ (by omega)), this]
set_option maxRecDepth 100000 in
theorem arg_ents {v : Value} {d : DataW H} {p : List MemPlace} (hok : Value.okWide Tryz.prog W .any base 33 v) (h : DataW.Trod enc Tryz.prog W 0 (fun _ => true) true 33 v d p) :
    ∃ (a : Option Addr) (c : Nat) (l : List (Nat → Int)), v = .slice a l.length c ∧ l.length ≤ c ∧ c ≤ maxLen ∧ Reads W W.heap.size 6 a l.length (cellsE l) := by
  obtain ⟨a0, len0, cap0, rfl⟩ := okWide_slice Tryz.underlying33 hok
  obtain ⟨fuel, hf⟩ := h
  rcases Deep.open_slice Tryz.underlying33 hf with ⟨hcs, _⟩ | ⟨a, len, cap, m, n, D, Pl, hcs, _, hl, hm, hmm, _, hx⟩
  · simp [Value.cells] at hcs
    obtain ⟨rfl, rfl, rfl⟩ := hcs
    exact ⟨none, 0, [], rfl, Nat.le_refl _, by simp [maxLen], Reads.none_⟩
  · simp [Value.cells] at hcs
    obtain ⟨rfl, rfl, rfl⟩ := hcs
    have hm' : m = cap0 := by simpa using hmm
    rw [show Tryz.prog.cellsOf 97 = 6 by kernel_rfl] at hx
    have key : ∀ i, ∃ f : Nat → Int, i < m → W.cells? 0 (a.add (i * 6)) 6 = some (entC f) := fun i => by
      by_cases hi : i < m
      · obtain ⟨cs', h1, h2⟩ := hx i hi
        obtain ⟨f, rfl⟩ := ent_cells h2
        exact ⟨f, fun _ => h1⟩
      · exact ⟨fun _ => 0, fun h => absurd h hi⟩
    obtain ⟨F, hF⟩ := Classical.axiomOfChoice key
    refine ⟨some a, cap0, (List.range len0).map F, by simp, by simpa using hl, hm, ⟨cellsE_length _, fun hn => ?_⟩⟩
    have hn' : 0 < len0 := by simpa using hn
    have hcell : ∀ k j, k < m → j < 6 → W.cell? ((a.add (k * 6)).add j) = some (.int .i64 (F k j)) := fun k j hk hj => by
      obtain ⟨_, _, hc⟩ := World.cells?_some (hF k hk)
      rw [hc j hj, entC_get _ j hj]
    have h0 := hcell 0 0 (by omega) (by omega)
    have h0' : W.cell? a = some (.int .i64 (F 0 0)) := by simpa [Addr.add] using h0
    obtain ⟨b, off, rfl⟩ := addr_of_cell h0'
    refine ⟨b, off, rfl, World.block_lt_of_cell? W _ h0', fun j u hu => ?_⟩
    obtain ⟨f, hfk, hfe⟩ := cellsE_inv hu
    have hk : j / 6 < len0 := by
      rcases Nat.lt_or_ge (j / 6) len0 with h | h
      · exact h
      · rw [List.getElem?_eq_none (by simpa using h)] at hfk; cases hfk
    have hfF : F (j / 6) = f := by simpa [hk] using hfk
    rw [entC_get _ _ (Nat.mod_lt _ (by omega))] at hfe
    injection hfe with hfe
    have := hcell (j / 6) (j % 6) (by omega) (Nat.mod_lt _ (by omega))
    have ad : ∀ (o i : Nat), (⟨b, o, none⟩ : Addr).add i = ⟨b, o + i, none⟩ := fun o i => by unfold Addr.add; split <;> simp_all
    rw [ad, ad, show off + j / 6 * 6 + j % 6 = off + j by omega, hfF, hfe] at this
    exact this
end Go.Proofs.YtfakgidimekikaaGreat
