/- Texts merged into one, for the number of files a claim may have: PkP. -/
import Derived.Test.YtfakgidimekikaaMPlK
import Derived.Test.YtfakgidimekikaaMI
import Derived.Test.YtfakgidimekikaaMStpB
import Derived.Test.YtfakgidimekikaaMApP
import Derived.HandedShaped
namespace Go.Proofs.Ytfakgidimekikaa
open Go.RowKit Go.Fb
set_option linter.unusedVariables false
theorem stepTyK : SliceTy Try.prog 23 37 15 152 := SliceTy.mk' (z := .agg #[.int .i64 0, .int .i64 0, .int .i64 0, .slice none 0 0, .slice none 0 0, .int .i64 0, .int .i64 0, .int .i64 0, .int .i64 0, .int .i64 0, .int .i64 0, .int .i64 0, .int .i64 0, .int .i64 0, .bool false]) Try.underlying23 (by kernel_rfl) rfl (by omega)
/-- Steps whose slices lie apart from their own row. -/
structure SmO (q : Option Nat) (w : World) (m : Stm) : Prop where
  inn : NdIn w w.heap.size (m.1.nd, m.2.1, m.2.2)
  o1 : Off q m.2.1
  o2 : Off q m.2.2
theorem SmO.fr {q : Option Nat} {w w' : World} {m : Stm} (h : SmO q w m) (hf : Fr w.heap.size [] w w') : SmO q w' m :=
  ⟨(h.inn.frw hf (Nat.le_refl _) (by simp)).more hf.size, h.o1, h.o2⟩
theorem SmO.grown {q q' : Option Nat} {w w' : World} {m : Stm} {s : Nat} (h : SmO q w m) (hg : w.grownBy w' q) (hq : q' = q ∨ q' = some s) (hs : w.heap.size ≤ s) : SmO q' w' m := by
  obtain ⟨⟨⟨A, c, h1, h2⟩, ⟨A', c', h3, h4⟩⟩, o1, o2⟩ := h
  have hz := hg.size
  refine ⟨⟨⟨A, c, h1, ?_⟩, ⟨A', c', h3, ?_⟩⟩, ?_, ?_⟩
  · exact (reads_grown h2 hg (Nat.le_refl _) (o1 _ _ _ h1)).more hz
  · exact (reads_grown h4 hg (Nat.le_refl _) (o2 _ _ _ h3)).more hz
  · rcases hq with rfl | rfl
    · exact o1
    · simp only at h1; rw [h1]; exact reads_off h2 hs
  · rcases hq with rfl | rfl
    · exact o2
    · simp only at h3; rw [h3]; exact reads_off h4 hs
theorem stOne {k : Int} {x : Nd} {rs : Bool} {Af Ap : Option Addr} {nf cf np cp : Nat} : ∀ u ∈ (stA k x rs (.slice Af nf cf) (.slice Ap np cp)).toList, u.oneCell' = true := by
  intro u hu
  simp at hu
  rcases hu with rfl | rfl | rfl | rfl | rfl | rfl | rfl | rfl | rfl | rfl | rfl | rfl | rfl | rfl | rfl <;> rfl
theorem clean_len (s : Stp) : (cleanS s).nd.fr.length ≤ s.nd.fr.length ∧ (cleanS s).nd.pg.length ≤ s.nd.pg.length := by
  unfold cleanS
  by_cases h1 : s.kind = 1
  · simp [h1]
  by_cases h2 : s.kind = 2
  · simp [h2]
  by_cases h3 : s.kind = 3
  · simp [h3]
  by_cases h4 : s.kind = 4
  · simp [h4]
  by_cases h5 : s.kind = 5
  · simp [h5]
  · simp [h1, h2, h3, h4, h5]
theorem frozen_set (w : World) (a b : Addr) (u : Value) : (w.setCell a u).frozen? b = w.frozen? b := by
  unfold World.frozen? World.setCell
  by_cases e : a.block = b.block
  · simp only [Array.getElem?_modify, e, if_true]
    cases w.heap[b.block]? with
    | none => rfl
    | some o => cases o <;> rfl
  · simp [Array.getElem?_modify, e]
/-- The first cells of a graph's programs: some ints, not frozen, in blocks that were made, apart from the nodes' row. -/
def PrI (base : Nat) (q : Option Nat) (M : List Ndm) (w : World) : Prop :=
  ∀ m ∈ M, ∀ Ap np cp, m.2.2 = .slice Ap np cp → 0 < np → ∃ b o, Ap = some ⟨b, o, none⟩ ∧ (∃ v, w.cell? ⟨b, o, none⟩ = some (.int .i64 v)) ∧ w.frozen? ⟨b, o, none⟩ = false ∧ base ≤ b ∧ some b ≠ q
theorem pri_of {base : Nat} {w : World} {A : Option Addr} {n c : Nat} {M : List Ndm} (h : Nmd base w A n c M) : PrI base (Value.ownBlock (.slice A n c)) M w := by
  intro m hm Ap np cp hv hn
  obtain ⟨⟨_, ⟨A', c', h3, h4⟩⟩, _, o2, _, f2, th⟩ := h.inn m hm
  have hv' := hv
  rw [h3] at hv'
  injection hv' with e1 e2 e3
  subst e1
  subst e2
  obtain ⟨b, off, e, hb, hc⟩ := h4.2 hn
  refine ⟨b, off, e, ?_, ?_, f2 _ _ _ h3 hn _ e, o2 _ _ _ h3 hn _ e⟩
  · cases hp : m.1.pg with
    | nil => rw [hp] at hn; simp at hn
    | cons i t =>
      have := hc 0 (.int .i64 i.1) (by rw [hp]; rfl)
      exact ⟨i.1, by simpa using this⟩
  · have := (th _ _ _ h3 hn _ e).2 0
    simpa [Addr.add] using this
theorem PrI.fr {base : Nat} {q : Option Nat} {M : List Ndm} {w w' : World} (h : PrI base q M w) (hf : Fr w.heap.size [] w w') : PrI base q M w' := by
  intro m hm Ap np cp hv hn
  obtain ⟨b, o, e, ⟨v, hc⟩, hz, hb, ho⟩ := h m hm Ap np cp hv hn
  have hlt : b < w.heap.size := World.block_lt_of_cell? w _ hc
  exact ⟨b, o, e, ⟨v, (hf.cell (p := ⟨b, o, none⟩) hlt (by simp)).trans hc⟩, (hf.frozen (p := ⟨b, o, none⟩) hlt (by simp)).trans hz, hb, ho⟩
theorem PrI.set {base : Nat} {q : Option Nat} {M : List Ndm} {w : World} (h : PrI base q M w) (a : Addr) (x : Int) : PrI base q M (w.setCell a (.int .i64 x)) := by
  intro m hm Ap np cp hv hn
  obtain ⟨b, o, e, hc, hz, hb, ho⟩ := h m hm Ap np cp hv hn
  exact ⟨b, o, e, someInt_setCell hc a x, (frozen_set _ _ _ _).trans hz, hb, ho⟩
theorem row_get {w : World} {B n : Nat} {A : Option Addr} {M : List Ndm} (h : Reads w B 13 A n (cellsN M)) (hm : n = M.length) {k : Nat} {m : Ndm} (hk : M[k]? = some m) :
    ∃ b off, A = some ⟨b, off, none⟩ ∧ b < B ∧ ∀ j u, (ndL m)[j]? = some u → w.cell? ⟨b, off + k * 13 + j, none⟩ = some u := by
  have hkn : k < n := by
    rw [hm]
    rcases Nat.lt_or_ge k M.length with h | h
    · exact h
    · rw [List.getElem?_eq_none h] at hk; cases hk
  obtain ⟨b, off, e, hb, hc⟩ := h.2 (by omega)
  refine ⟨b, off, e, hb, fun j u hu => ?_⟩
  have hj : j < 13 := by
    rcases Nat.lt_or_ge j 13 with h | h
    · exact h
    · rw [List.getElem?_eq_none (by simp [ndL]; omega)] at hu; cases hu
  rw [Nat.add_assoc]
  exact hc _ u (by rw [cellsN_get hk j hj]; exact hu)
end Go.Proofs.Ytfakgidimekikaa
