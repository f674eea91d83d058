/- Nodes of a graph in memory: thirteen cells each, two of which are slices of numbers and of instructions. -/
import Derived.Test.YtddngibfhklnfaaCode
import Derived.Test.YtddngibfhklnfaaRouteB
import Derived.Test.YtddngibfhklnfaaArr
namespace Go.Proofs.Ytddngibfhklnfaa
open Go.RowKit Go.Fb
structure Nd where
  id : Int
  kind : Int
  par : Int
  fr : List Int
  pg : List (Int × Int)
  rt : Nat → Int
/-- A node with the two slices that it holds. -/
abbrev Ndm := Nd × Value × Value
abbrev ndA (x : Nd) (sf sp : Value) : Array Value := #[.int .i64 x.id, .int .i64 x.kind, sf, sp, .int .i64 x.par, .int .i64 (x.rt 0), .int .i64 (x.rt 1), .int .i64 (x.rt 2), .int .i64 (x.rt 3), .int .i64 (x.rt 4), .int .i64 (x.rt 5), .int .i64 (x.rt 6), .int .i64 (x.rt 7)]
def ndL (m : Ndm) : List Value := (ndA m.1 m.2.1 m.2.2).toList
def cellsN (M : List Ndm) : List Value := M.flatMap ndL
theorem cellsN_length (M : List Ndm) : (cellsN M).length = M.length * 13 := by
  unfold cellsN
  induction M with
  | nil => rfl
  | cons x M ih => rw [List.flatMap_cons, List.length_append, ih]; simp [ndL]; omega
theorem cellsN_app (a b : List Ndm) : cellsN (a ++ b) = cellsN a ++ cellsN b := by simp [cellsN]
theorem cellsN_get : ∀ {M : List Ndm} {k : Nat} {m : Ndm}, M[k]? = some m → ∀ j, j < 13 → (cellsN M)[k * 13 + j]? = (ndL m)[j]?
  | [], k, x, h, _, _ => by simp at h
  | y :: l, 0, x, h, j, hj => by
    simp at h
    subst h
    rw [cellsN, List.flatMap_cons, Nat.zero_mul, Nat.zero_add, List.getElem?_append_left (by simp [ndL]; omega)]
  | y :: l, k + 1, x, h, j, hj => by
    rw [cellsN, List.flatMap_cons, List.getElem?_append_right (by simp [ndL]; omega)]
    have ih := cellsN_get (M := l) (k := k) (m := x) (by simpa using h) j hj
    have e : (k + 1) * 13 + j - (ndL y).length = k * 13 + j := by simp [ndL]; omega
    rw [e]
    exact ih
/-- What a node's two slices read. -/
structure NdIn (w : World) (B : Nat) (m : Ndm) : Prop where
  fr : ∃ A c, m.2.1 = .slice A m.1.fr.length c ∧ Reads w B 1 A m.1.fr.length (m.1.fr.map (Value.int .i64))
  pg : ∃ A c, m.2.2 = .slice A m.1.pg.length c ∧ Reads w B 2 A m.1.pg.length (cellsI m.1.pg)
theorem NdIn.frw {w w' : World} {B B' : Nat} {L : List Nat} {m : Ndm} (h : NdIn w B m) (hf : Fr B' L w w') (hB : B ≤ B') (hL : ∀ k ∈ L, B ≤ k) : NdIn w' B m := by
  obtain ⟨⟨A, c, h1, h2⟩, ⟨A', c', h3, h4⟩⟩ := h
  exact ⟨⟨A, c, h1, h2.fr hf hB hL⟩, ⟨A', c', h3, h4.fr hf hB hL⟩⟩
theorem NdIn.more {w : World} {B B' : Nat} {m : Ndm} (h : NdIn w B m) (hB : B ≤ B') : NdIn w B' m := by
  obtain ⟨⟨A, c, h1, h2⟩, ⟨A', c', h3, h4⟩⟩ := h
  exact ⟨⟨A, c, h1, h2.more hB⟩, ⟨A', c', h3, h4.more hB⟩⟩
/-- A list of nodes that a slice reads. -/
structure Nds (w : World) (B : Nat) (A : Option Addr) (n : Nat) (M : List Ndm) : Prop where
  num : n = M.length
  rd : Reads w B 13 A n (cellsN M)
  inn : ∀ m ∈ M, NdIn w B m
theorem Nds.frw {w w' : World} {B B' n : Nat} {A : Option Addr} {L : List Nat} {M : List Ndm} (h : Nds w B A n M) (hf : Fr B' L w w') (hB : B ≤ B') (hL : ∀ k ∈ L, B ≤ k) : Nds w' B A n M :=
  ⟨h.num, h.rd.fr hf hB hL, fun m hm => (h.inn m hm).frw hf hB hL⟩
theorem Nds.more {w : World} {B B' n : Nat} {A : Option Addr} {M : List Ndm} (h : Nds w B A n M) (hB : B ≤ B') : Nds w B' A n M :=
  ⟨h.num, h.rd.more hB, fun m hm => (h.inn m hm).more hB⟩
theorem Nds.get {w : World} {B n : Nat} {A : Option Addr} {M : List Ndm} (h : Nds w B A n M) {k : Nat} {m : Ndm} (hk : M[k]? = some m) :
    ∃ b off, A = some ⟨b, off, none⟩ ∧ b < B ∧ ∀ j u, (ndL m)[j]? = some u → w.cell? ⟨b, off + k * 13 + j, none⟩ = some u := by
  have hkn : k < n := by
    rw [h.num]
    rcases Nat.lt_or_ge k M.length with h | h
    · exact h
    · rw [List.getElem?_eq_none h] at hk; cases hk
  obtain ⟨b, off, e, hb, hc⟩ := h.rd.2 (by omega)
  refine ⟨b, off, e, hb, fun j u hu => ?_⟩
  have hj : j < 13 := by
    rcases Nat.lt_or_ge j 13 with h | h
    · exact h
    · rw [List.getElem?_eq_none (by simp [ndL]; omega)] at hu; cases hu
  rw [Nat.add_assoc]
  exact hc _ u (by rw [cellsN_get hk j hj]; exact hu)
theorem iowns_empty (w : World) : (w.alloc (.cells #[] 3)).ownsRow w.heap.size 3 1 (.slice (some ⟨w.heap.size, 0, none⟩) 0 0) 0 [] := by
  refine ⟨rfl, .inr ⟨w.heap.size, 0, #[], rfl, Nat.le_refl _, Blk.new _ _ _, ?_⟩⟩
  simp
theorem ints_nil (A : Option Addr) (n c : Nat) (w : World) : (binOp .eql 28 (.slice A n c) (.slice none 0 0)).run Try.prog w = .ok (.bool A.isNone) w := by
  simp only [binOp]
  simp [run_equal_slice_nil w _ _ A n c Try.underlying28]
theorem intC_one {l : List Int} : ∀ u ∈ l.map (Value.int .i64), u.oneCell' = true := by
  intro u hu
  obtain ⟨x, _, rfl⟩ := List.mem_map.1 hu
  rfl
set_option maxRecDepth 100000 in
theorem iclone_any (A : Option Addr) (n c B : Nat) (l : List Int) (w : World) (hl : n = l.length) (hn : n ≤ 1000000) (hr : Reads w B 1 A n (l.map (Value.int .i64))) (hB : B ≤ w.heap.size) :
    Calls Try.prog 73 #[.slice A n c] w fun e w' => ∃ A' c', e = .returned (.slice A' n c') ∧ w'.ownsRow w.heap.size 3 1 (.slice A' n c') n (l.map (Value.int .i64)) ∧ Fr w.heap.size [] w w' := by
  rcases A with _ | ad
  · have h0 : n = 0 := by
      rcases Nat.eq_zero_or_pos n with h | h
      · exact h
      · obtain ⟨b, off, e, _⟩ := hr.2 h
        cases e
    subst h0
    have hle : l = [] := List.eq_nil_of_length_eq_zero hl.symm
    subst hle
    have hq : ∀ w, (binOp .eql 28 (.slice none 0 c) (.slice none 0 0)).run Try.prog w = .ok (.bool true) w := ints_nil none 0 c
    clear hr hn hl
    go_enter Try.func73, Try.ntmps73
    go_wp2_with fail
    go_ret
    exact ⟨none, 0, rfl, World.ownsRow_nil _ _ _ _, Fr.refl _ _ _⟩
  · have ho := iowns_empty w
    have hf := (Fr.refl w.heap.size [] w).alloc (Nat.le_refl _) (.cells #[] 3)
    have hr1 := hr.fr hf hB (by simp)
    have hs : w.heap.size < (w.alloc (.cells #[] 3)).heap.size := by simp
    have hq : ∀ w, (binOp .eql 28 (.slice (some ad) n c) (.slice none 0 0)).run Try.prog w = .ok (.bool false) w := ints_nil (some ad) n c
    clear hr hl
    go_enter Try.func73, Try.ntmps73
    go_wp2_with (at_builtin; refine wpList_app _ rfl (.tmp 5) (.tmp 6) intsTy rfl w.heap.size (.slice (some ⟨w.heap.size, 0, none⟩) 0 0) 0 [] rfl ho B _ n _ (l.map (Value.int .i64)) rfl hr1 intC_one (by omega) (by omega) (by simp) ?_; intro A2 c2 w2 hown2 hg2 hat2)
    go_ret
    rw [Nat.zero_add] at hown2
    exact ⟨A2, c2, rfl, by simpa using hown2, hf.grown hg2 (by simp) (fun k hk => .inl (by simp [Value.ownBlock] at hk; omega))⟩
theorem pgTy : SliceTy Try.prog 35 71 2 16 := SliceTy.mk' (z := .agg #[.int .i64 0, .int .i64 0]) Try.underlying35 (by kernel_rfl) rfl (by omega)
theorem powns_empty (w : World) : (w.alloc (.cells #[] 71)).ownsRow w.heap.size 71 2 (.slice (some ⟨w.heap.size, 0, none⟩) 0 0) 0 [] := by
  refine ⟨rfl, .inr ⟨w.heap.size, 0, #[], rfl, Nat.le_refl _, Blk.new _ _ _, ?_⟩⟩
  simp
theorem pgs_nil (A : Option Addr) (n c : Nat) (w : World) : (binOp .eql 35 (.slice A n c) (.slice none 0 0)).run Try.prog w = .ok (.bool A.isNone) w := by
  simp only [binOp]
  simp [run_equal_slice_nil w _ _ A n c Try.underlying35]
theorem insC_one {l : List (Int × Int)} : ∀ u ∈ cellsI l, u.oneCell' = true := by
  intro u hu
  obtain ⟨x, _, hx⟩ := List.mem_flatMap.1 hu
  simp only [insC, List.mem_cons, List.not_mem_nil, or_false] at hx
  rcases hx with rfl | rfl <;> rfl
set_option maxRecDepth 100000 in
theorem pclone_any (A : Option Addr) (n c B : Nat) (l : List (Int × Int)) (w : World) (hl : n = l.length) (hn : n ≤ 1000000) (hr : Reads w B 2 A n (cellsI l)) (hB : B ≤ w.heap.size) :
    Calls Try.prog 72 #[.slice A n c] w fun e w' => ∃ A' c', e = .returned (.slice A' n c') ∧ w'.ownsRow w.heap.size 71 2 (.slice A' n c') n (cellsI l) ∧ Fr w.heap.size [] w w' := by
  rcases A with _ | ad
  · have h0 : n = 0 := by
      rcases Nat.eq_zero_or_pos n with h | h
      · exact h
      · obtain ⟨b, off, e, _⟩ := hr.2 h
        cases e
    subst h0
    have hle : l = [] := List.eq_nil_of_length_eq_zero hl.symm
    subst hle
    have hq : ∀ w, (binOp .eql 35 (.slice none 0 c) (.slice none 0 0)).run Try.prog w = .ok (.bool true) w := pgs_nil none 0 c
    clear hr hn hl
    go_enter Try.func72, Try.ntmps72
    go_wp2_with fail
    go_ret
    exact ⟨none, 0, rfl, World.ownsRow_nil _ _ _ _, Fr.refl _ _ _⟩
  · have ho := powns_empty w
    have hf := (Fr.refl w.heap.size [] w).alloc (Nat.le_refl _) (.cells #[] 71)
    have hr1 := hr.fr hf hB (by simp)
    have hs : w.heap.size < (w.alloc (.cells #[] 71)).heap.size := by simp
    have hq : ∀ w, (binOp .eql 35 (.slice (some ad) n c) (.slice none 0 0)).run Try.prog w = .ok (.bool false) w := pgs_nil (some ad) n c
    clear hr hl
    go_enter Try.func72, Try.ntmps72
    go_wp2_with (at_builtin; refine wpList_app _ rfl (.tmp 5) (.tmp 6) pgTy rfl w.heap.size (.slice (some ⟨w.heap.size, 0, none⟩) 0 0) 0 [] rfl ho B _ n _ (cellsI l) rfl hr1 insC_one (by omega) (by omega) (by simp) ?_; intro A2 c2 w2 hown2 hg2 hat2)
    go_ret
    rw [Nat.zero_add] at hown2
    exact ⟨A2, c2, rfl, by simpa using hown2, hf.grown hg2 (by simp) (fun k hk => .inl (by simp [Value.ownBlock] at hk; omega))⟩
end Go.Proofs.Ytddngibfhklnfaa
