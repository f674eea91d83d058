/- Texts merged into one, for the number of files a claim may have: LinesArg. -/
import Derived.Test.YtfakgidimekikaaGreatMArgs
import Derived.Test.YtfakgidimekikaaGreatMLnA
import Derived.Deep.Strs
import Derived.Deep.Slices
import Derived.Lib.SmallJoins
namespace Go.Proofs.YtfakgidimekikaaGreat
open Go.RowKit Go.Fb Go.ChangeShapes Go.WideShapes Go.ChangeAt
variable {W : World} {H : Type} {enc : TypeId × Value → H} {base : Nat}
set_option maxRecDepth 100000 in
theorem lval_cells {n : Nat} {cs : List Value} {x : DataW H × List MemPlace} (h : DataW.trod enc Tryz.prog W 0 (fun _ => true) true n 24 cs = some x) : ∃ a b : Int, cs = [.int .i64 a, .int .i64 b] := by
  obtain ⟨y0, y1, m, _, hl, h0, h1⟩ := trod_struct2 Tryz.underlying24 h
  obtain ⟨a, e0, _⟩ := DataW.trod_int Tryz.underlying3 h0
  obtain ⟨b, e1, _⟩ := DataW.trod_int Tryz.underlying3 h1
  rw [show Tryz.prog.cellsOf 24 = 2 by kernel_rfl] at hl
  rw [show Tryz.prog.cellsOf 3 = 1 by kernel_rfl] at e0 e1
  match cs, hl with
  | [u, v], _ => simp at e0 e1; exact ⟨a, b, by rw [e0, e1]⟩
set_option maxRecDepth 100000 in
theorem ln_cells {n : Nat} {cs : List Value} {x : DataW H × List MemPlace} (h : DataW.trod enc Tryz.prog W 0 (fun _ => true) true n 26 cs = some x) : ∃ f : Nat → Int, cs = lnC f := by
  obtain ⟨y0, y1, y2, y3, m, _, hl, h0, h1, h2, h3⟩ := Go.Joins.trod_struct4 Tryz.underlying26 h
  obtain ⟨a, e0, _⟩ := DataW.trod_int Tryz.underlying3 h0
  obtain ⟨b, e1, _⟩ := DataW.trod_int Tryz.underlying3 h1
  obtain ⟨k, e2, _⟩ := DataW.trod_int Tryz.underlying3 h2
  obtain ⟨c, d, e3⟩ := lval_cells h3
  rw [show Tryz.prog.cellsOf 26 = 5 by kernel_rfl] at hl
  rw [show Tryz.prog.cellsOf 3 = 1 by kernel_rfl] at e0 e1 e2
  rw [show Tryz.prog.cellsOf 24 = 2 by kernel_rfl] at e3
  match cs, hl with
  | [u0, u1, u2, u3, u4], _ =>
    simp at e0 e1 e2 e3
    exact ⟨fun j => [a, b, k, c, d].getD j 0, by simp [lnC, e0, e1, e2, e3]⟩
theorem cellsLn_inv {l : List (Nat → Int)} {j : Nat} {u : Value} (h : (cellsLn l)[j]? = some u) : ∃ x, l[j / 5]? = some x ∧ (lnC x)[j % 5]? = some u := by
  have hj : j < (cellsLn l).length := by
    rcases Nat.lt_or_ge j (cellsLn l).length with h' | h'
    · exact h'
    · rw [List.getElem?_eq_none h'] at h; cases h
  rw [cellsLn_length] at hj
  have hk : j / 5 < l.length := by omega
  refine ⟨l[j / 5], List.getElem?_eq_getElem hk, ?_⟩
  have := cellsLn_get (List.getElem?_eq_getElem hk) (j % 5) (Nat.mod_lt _ (by omega))
  rw [show j / 5 * 5 + j % 5 = j by omega, h] at this
  rw [lnC_get _ _ (Nat.mod_lt _ (by omega)), this]
set_option maxRecDepth 100000 in
theorem rd_lines {fuel : Nat} {cs : List Value} {x : DataW H × List MemPlace} (hf : DataW.trod enc Tryz.prog W 0 (fun _ => true) true fuel 22 cs = some x) :
    ∃ (a : Option Addr) (c : Nat) (l : List (Nat → Int)), cs = [.slice a l.length c] ∧ l.length ≤ c ∧ c ≤ maxLen ∧ Reads W W.heap.size 5 a l.length (cellsLn l) := by
  rcases Deep.open_slice Tryz.underlying22 hf with ⟨rfl, _⟩ | ⟨a, len0, cap0, m, n, D, Pl, rfl, _, hl, hm, hmm, _, hx⟩
  · exact ⟨none, 0, [], rfl, Nat.le_refl _, by simp [maxLen], Reads.none_⟩
  · have hm' : m = cap0 := by simpa using hmm
    rw [show Tryz.prog.cellsOf 26 = 5 by kernel_rfl] at hx
    have key : ∀ i, ∃ f : Nat → Int, i < m → W.cells? 0 (a.add (i * 5)) 5 = some (lnC f) := fun i => by
      by_cases hi : i < m
      · obtain ⟨cs', h1, h2⟩ := hx i hi
        obtain ⟨f, rfl⟩ := ln_cells h2
        exact ⟨f, fun _ => h1⟩
      · exact ⟨fun _ => 0, fun h => absurd h hi⟩
    obtain ⟨F, hF⟩ := Classical.axiomOfChoice key
    refine ⟨some a, cap0, (List.range len0).map F, by simp, by simpa using hl, hm, ⟨cellsLn_length _, fun hn => ?_⟩⟩
    have hn' : 0 < len0 := by simpa using hn
    have hcell : ∀ k j, k < m → j < 5 → W.cell? ((a.add (k * 5)).add j) = some (.int .i64 (F k j)) := fun k j hk hj => by
      obtain ⟨_, _, hc⟩ := World.cells?_some (hF k hk)
      rw [hc j hj, lnC_get _ j hj]
    have h0 := hcell 0 0 (by omega) (by omega)
    have h0' : W.cell? a = some (.int .i64 (F 0 0)) := by simpa [Addr.add] using h0
    obtain ⟨b, off, rfl⟩ := addr_of_cell h0'
    refine ⟨b, off, rfl, World.block_lt_of_cell? W _ h0', fun j u hu => ?_⟩
    obtain ⟨f, hfk, hfe⟩ := cellsLn_inv hu
    have hk : j / 5 < len0 := by
      rcases Nat.lt_or_ge (j / 5) len0 with h | h
      · exact h
      · rw [List.getElem?_eq_none (by simpa using h)] at hfk; cases hfk
    have hfF : F (j / 5) = f := by simpa [hk] using hfk
    rw [lnC_get _ _ (Nat.mod_lt _ (by omega))] at hfe
    injection hfe with hfe
    have := hcell (j / 5) (j % 5) (by omega) (Nat.mod_lt _ (by omega))
    have ad : ∀ (o i : Nat), (⟨b, o, none⟩ : Addr).add i = ⟨b, o + i, none⟩ := fun o i => by unfold Addr.add; split <;> simp_all
    rw [ad, ad, show off + j / 5 * 5 + j % 5 = off + j by omega, hfF, hfe] at this
    exact this
set_option maxRecDepth 100000 in
theorem arg_lines {v : Value} {d : DataW H} {p : List MemPlace} (hok : Value.okWide Tryz.prog W .any base 22 v) (h : DataW.Trod enc Tryz.prog W 0 (fun _ => true) true 22 v d p) :
    ∃ (a : Option Addr) (c : Nat) (l : List (Nat → Int)), v = .slice a l.length c ∧ l.length ≤ c ∧ c ≤ maxLen ∧ Reads W W.heap.size 5 a l.length (cellsLn l) := by
  obtain ⟨a0, len0, cap0, rfl⟩ := okWide_slice Tryz.underlying22 hok
  obtain ⟨fuel, hf⟩ := h
  obtain ⟨a, c, l, h1, h2⟩ := rd_lines hf
  simp [Value.cells] at h1
  obtain ⟨rfl, rfl, rfl⟩ := h1
  exact ⟨_, _, l, rfl, h2⟩
/-- Commits: each an epoch, and lines. -/
def Comm (w : World) (B : Nat) (A : Option Addr) (n : Nat) (K : Nat → Int × List (Nat → Int)) : Prop :=
  ∀ i, i < n → ∃ b off Ac cc, A = some ⟨b, off, none⟩ ∧ b < B ∧ w.cell? ⟨b, off + i * 2, none⟩ = some (.int .i64 (K i).1) ∧ w.cell? ⟨b, off + i * 2 + 1, none⟩ = some (.slice Ac (K i).2.length cc) ∧ (K i).2.length ≤ cc ∧ cc ≤ maxLen ∧ Reads w B 5 Ac (K i).2.length (cellsLn (K i).2)
theorem Comm.below {w w' : World} {B : Nat} {A : Option Addr} {n : Nat} {K : Nat → Int × List (Nat → Int)} (h : Comm w B A n K) (hb : Below B w w') : Comm w' B A n K := fun i hi => by
  obtain ⟨b, off, Ac, cc, h1, h2, h3, h4, h5, h6, h7⟩ := h i hi
  exact ⟨b, off, Ac, cc, h1, h2, (hb.cell (p := ⟨b, off + i * 2, none⟩) h2).trans h3, (hb.cell (p := ⟨b, off + i * 2 + 1, none⟩) h2).trans h4, h5, h6, h7.below hb⟩
end Go.Proofs.YtfakgidimekikaaGreat
