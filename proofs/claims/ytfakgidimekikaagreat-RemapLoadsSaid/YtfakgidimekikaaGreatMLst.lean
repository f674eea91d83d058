/- Texts merged into one, for the number of files a claim may have: Lst. -/
import Derived.Test.YtfakgidimekikaaGreatMB
namespace Go.Proofs.YtfakgidimekikaaGreat
open Go.RowKit Go.Fb
/-- A list of numbers with the slice that holds it. -/
abbrev Lm := List Int × Value
def fstL (X : List Lm) : List (List Int) := X.map (·.1)
/-- A row of rows of its own. -/
structure Lsts (base : Nat) (w : World) (v : Value) (n : Nat) (X : List Lm) : Prop where
  num : n = X.length
  own : w.ownsRow base 46 1 v n (X.map (·.2))
  inn : ∀ m ∈ X, (∃ A c, m.2 = .slice A m.1.length c ∧ m.1.length ≤ c) ∧ w.ownsRow base 3 1 m.2 m.1.length (m.1.map (Value.int .i64))
theorem own_apart {w : World} {b e s n b' e' s' n' : Nat} {v v' : Value} {xs xs' : List Value} (h : w.ownsRow b e s v n xs) (h' : w.ownsRow b' e' s' v' n' xs') (hne : e ≠ e') : v.ownBlock = none ∨ v.ownBlock ≠ v'.ownBlock := by
  rcases h.2 with ⟨rfl, _⟩ | ⟨g, cap, cur, rfl, _, hgg, _⟩
  · exact .inl rfl
  · right
    rcases h'.2 with ⟨rfl, _⟩ | ⟨g', cap', cur', rfl, _, hgg', _⟩
    · intro hh; cases hh
    · intro hh
      have e2 : g = g' := by simpa [Value.ownBlock] using hh
      subst e2
      rw [hgg] at hgg'
      injection hgg' with h1
      injection h1 with _ h2
      exact hne h2
theorem Lsts.nil (base : Nat) (w : World) : Lsts base w (.slice none 0 0) 0 [] := ⟨rfl, World.ownsRow_nil _ _ _ _, fun _ h => by cases h⟩
theorem Lsts.mv {base n : Nat} {w w' : World} {v : Value} {X : List Lm} (h : Lsts base w v n X) (hf : Fr w.heap.size [] w w') : Lsts base w' v n X :=
  ⟨h.num, ownsRow_fr h.own hf (fun q hq => ⟨(h.own.lt q hq).2, by simp⟩), fun m hm => ⟨(h.inn m hm).1, ownsRow_fr (h.inn m hm).2 hf (fun q hq => ⟨((h.inn m hm).2.lt q hq).2, by simp⟩)⟩⟩
/-- Kept over a change of blocks below it. -/
theorem Lsts.mvL {base n : Nat} {w w' : World} {v : Value} {X : List Lm} {L : List Nat} (h : Lsts base w v n X) (hf : Fr w.heap.size L w w') (hL : ∀ k, k ∈ L → k < base) : Lsts base w' v n X :=
  ⟨h.num, ownsRow_fr h.own hf (fun q hq => ⟨(h.own.lt q hq).2, fun hm => by have := (h.own.lt q hq).1; have := hL _ hm; omega⟩), fun m hm => ⟨(h.inn m hm).1, ownsRow_fr (h.inn m hm).2 hf (fun q hq => ⟨((h.inn m hm).2.lt q hq).2, fun hk => by have := ((h.inn m hm).2.lt q hq).1; have := hL _ hk; omega⟩)⟩⟩
theorem Lsts.low {base base' n : Nat} {w : World} {v : Value} {X : List Lm} (h : Lsts base w v n X) (hb : base' ≤ base) : Lsts base' w v n X :=
  ⟨h.num, ownsRow_base h.own hb, fun m hm => ⟨(h.inn m hm).1, ownsRow_base (h.inn m hm).2 hb⟩⟩
theorem lstC_one {X : List Lm} (h : ∀ m ∈ X, ∃ A c, m.2 = .slice A m.1.length c ∧ m.1.length ≤ c) : ∀ u ∈ X.map (·.2), u.oneCell' = true := by
  intro u hu
  obtain ⟨m, hm, rfl⟩ := List.mem_map.1 hu
  obtain ⟨A, c, e, _⟩ := h m hm
  rw [e]; rfl
theorem own_new {w : World} {base e : Nat} {u : Value} (hb : base ≤ w.heap.size) : (w.alloc (.cells #[u] e)).ownsRow base e 1 (.slice (some ⟨w.heap.size, 0, none⟩) 1 1) 1 [u] :=
  ⟨rfl, .inr ⟨w.heap.size, 1, #[u], rfl, hb, Blk.new _ _ _, by simp [maxLen]⟩⟩
/-- One row of rows appended to another one. -/
theorem Lsts.app {base n n2 : Nat} {w w' : World} {v v2 v' : Value} {X Y : List Lm} (h : Lsts base w v n X) (h2 : Lsts base w v2 n2 Y)
    (ho : w'.ownsRow base 46 1 v' (n + n2) (X.map (·.2) ++ Y.map (·.2))) (hg : w.grownBy w' v.ownBlock) : Lsts base w' v' (n + n2) (X ++ Y) := by
  refine ⟨by rw [List.length_append, ← h.num, ← h2.num], by rw [List.map_append]; exact ho, fun m hm => ?_⟩
  have key : ∀ Z : List Lm, (∀ m ∈ Z, (∃ A c, m.2 = .slice A m.1.length c ∧ m.1.length ≤ c) ∧ w.ownsRow base 3 1 m.2 m.1.length (m.1.map (Value.int .i64))) → m ∈ Z → (∃ A c, m.2 = .slice A m.1.length c ∧ m.1.length ≤ c) ∧ w'.ownsRow base 3 1 m.2 m.1.length (m.1.map (Value.int .i64)) := fun Z hZ hm =>
    ⟨(hZ m hm).1, (hZ m hm).2.kept hg (own_apart (hZ m hm).2 h.own (by decide))⟩
  rcases List.mem_append.1 hm with hm | hm
  · exact key X h.inn hm
  · exact key Y h2.inn hm
theorem lstTy : SliceTy Tryz.prog 60 46 1 24 := SliceTy.mk' (z := .slice none 0 0) Tryz.underlying60 (by kernel_rfl) rfl (by omega)
end Go.Proofs.YtfakgidimekikaaGreat
