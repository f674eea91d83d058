/- Words and small laws of memory that the proofs of this work share: frames, blocks that are known whole, slices that read as lists. No program in sight. -/
import Derived.WalkKit
import Derived.WalkLawsBesides
import Derived.WalkSpells
import Derived.Lib.Hide
import Derived.Maps.AppendAt
import Derived.Deep.AppendLies
import Derived.Deep.Draws
import Derived.Deep.QuietTactic
import Derived.BigQuiet
namespace Go.Fb
open Go.RowKit

/-- A frame: below block number B, but for the blocks in L, nothing has turned. -/
structure Fr (B : Nat) (L : List Nat) (w w' : World) : Prop where
  os : w'.os = w.os
  tape : w'.tape = w.tape
  output : w'.output = w.output
  size : w.heap.size ≤ w'.heap.size
  block : ∀ k, k < B → k ∉ L → w'.heap[k]? = w.heap[k]?

theorem Fr.refl (B : Nat) (L : List Nat) (w : World) : Fr B L w w := ⟨rfl, rfl, rfl, Nat.le_refl _, fun _ _ _ => rfl⟩
theorem Fr.trans {B : Nat} {L : List Nat} {a b c : World} (h : Fr B L a b) (k : Fr B L b c) : Fr B L a c :=
  ⟨k.os.trans h.os, k.tape.trans h.tape, k.output.trans h.output, Nat.le_trans h.size k.size, fun i hi hn => (k.block i hi hn).trans (h.block i hi hn)⟩
theorem Fr.mono {B B' : Nat} {L L' : List Nat} {w w' : World} (h : Fr B L w w') (hB : B' ≤ B) (hL : ∀ k, k ∈ L → k < B' → k ∈ L') : Fr B' L' w w' :=
  ⟨h.os, h.tape, h.output, h.size, fun k hk hn => h.block k (Nat.lt_of_lt_of_le hk hB) (fun hm => hn (hL k hm hk))⟩
theorem Fr.drew {B : Nat} {L : List Nat} {a w : World} (h : Fr B L a w) : Fr B L a w.drew := ⟨h.os, h.tape, h.output, h.size, h.block⟩
theorem Fr.drewN {B : Nat} {L : List Nat} {a w : World} (h : Fr B L a w) (n : Nat) : Fr B L a (w.drewN n) := ⟨h.os, h.tape, h.output, h.size, h.block⟩
theorem Fr.alloc {B : Nat} {L : List Nat} {a w : World} (h : Fr B L a w) (hB : B ≤ w.heap.size) (o : Obj) : Fr B L a (w.alloc o) :=
  h.trans ⟨rfl, rfl, rfl, by simp, fun k hk _ => Below.heap_alloc _ _ _ (by omega)⟩
theorem Fr.setCell {B : Nat} {L : List Nat} {a w : World} (h : Fr B L a w) {p : Addr} (hp : B ≤ p.block ∨ p.block ∈ L) (u : Value) : Fr B L a (w.setCell p u) :=
  h.trans ⟨rfl, rfl, rfl, by simp [World.setCell], fun k hk hn => Below.heap_setCell _ _ _ _ (by
    rintro rfl
    rcases hp with hp | hp
    · omega
    · exact hn hp)⟩
theorem Fr.grown {B : Nat} {L : List Nat} {a w w' : World} {row : Option Nat} (h : Fr B L a w) (hg : w.grownBy w' row) (hB : B ≤ w.heap.size) (hr : ∀ k, row = some k → B ≤ k ∨ k ∈ L) : Fr B L a w' :=
  h.trans ⟨hg.os, hg.tape, hg.output, hg.size, fun k hk hn => hg.block k (by omega) (fun e => by
    rcases hr k e.symm with h | h
    · omega
    · exact hn h)⟩
theorem Fr.of_below {B : Nat} {L : List Nat} {w w' : World} (h : Below B w w') : Fr B L w w' := ⟨h.os, h.tape, h.output, h.size, fun k hk _ => h.block k hk⟩
theorem Fr.below {B : Nat} {w w' : World} (h : Fr B [] w w') : Below B w w' := ⟨h.os, h.tape, h.output, h.size, fun k hk => h.block k hk (by simp)⟩
theorem _root_.Go.RowKit.Below.drewN {B : Nat} {a w : World} (h : Below B a w) (n : Nat) : Below B a (w.drewN n) := ⟨h.os, h.tape, h.output, h.size, h.block⟩
theorem Fr.cell {B : Nat} {L : List Nat} {w w' : World} (h : Fr B L w w') {p : Addr} (hp : p.block < B) (hn : p.block ∉ L) : w'.cell? p = w.cell? p := World.cell?_of_block (w := w) (h.block p.block hp hn)
theorem Fr.frozen {B : Nat} {L : List Nat} {w w' : World} (h : Fr B L w w') {p : Addr} (hp : p.block < B) (hn : p.block ∉ L) : w'.frozen? p = w.frozen? p := World.frozen?_of_block (w := w) (h.block p.block hp hn)

/-- A block that is known whole, no cell of it frozen. -/
def Blk (w : World) (g : Nat) (t : TypeId) (cs : Array Value) : Prop := w.heap[g]? = some (.cells cs t (0, 0))
section
variable {w w' : World} {g : Nat} {t : TypeId} {cs : Array Value}
theorem Blk.lt (h : Blk w g t cs) : g < w.heap.size := by
  rcases Nat.lt_or_ge g w.heap.size with hlt | hge
  · exact hlt
  · unfold Blk at h; rw [Array.getElem?_eq_none hge] at h; cases h
theorem Blk.cell (h : Blk w g t cs) (i : Nat) : w.cell? ⟨g, i, none⟩ = cs[i]? := cell_of_row w g i cs t (0, 0) h
theorem Blk.frozen (h : Blk w g t cs) (i : Nat) : w.frozen? ⟨g, i, none⟩ = false := by
  unfold Blk at h
  simp [World.frozen?, h]
theorem Blk.new (w : World) (t : TypeId) (cs : Array Value) : Blk (w.alloc (.cells cs t)) w.heap.size t cs := heap_alloc_new w _
theorem Blk.drew (h : Blk w g t cs) : Blk w.drew g t cs := h
theorem Blk.drewN (h : Blk w g t cs) (n : Nat) : Blk (w.drewN n) g t cs := h
theorem Blk.alloc (h : Blk w g t cs) (o : Obj) : Blk (w.alloc o) g t cs := (Below.heap_alloc w o g h.lt).trans h
theorem Blk.set_ (h : Blk w g t cs) (i : Nat) (u : Value) : Blk (w.setCell ⟨g, i, none⟩ u) g t (cs.setIfInBounds i u) := by
  unfold Blk at h ⊢
  simp [World.setCell, Array.getElem?_modify, h]
theorem Blk.far (h : Blk w g t cs) {p : Addr} (hp : g ≠ p.block) (u : Value) : Blk (w.setCell p u) g t cs := (Below.heap_setCell w p u g hp).trans h
theorem Blk.fr {B : Nat} {L : List Nat} (h : Blk w g t cs) (hb : Fr B L w w') (hg : g < B) (hn : g ∉ L) : Blk w' g t cs := (hb.block g hg hn).trans h
theorem Blk.below {B : Nat} (h : Blk w g t cs) (hb : Below B w w') (hg : g < B) : Blk w' g t cs := (hb.block g hg).trans h
theorem Blk.grown {row : Option Nat} (h : Blk w g t cs) (hb : w.grownBy w' row) (hg : some g ≠ row) : Blk w' g t cs := (hb.block g h.lt hg).trans h
theorem Blk.ne_ {g' : Nat} {t' : TypeId} {cs' : Array Value} (h : Blk w g t cs) (h' : Blk w g' t' cs') (hne : t ≠ t') : g ≠ g' := by
  rintro rfl
  unfold Blk at h h'
  rw [h] at h'
  injection h' with h'
  injection h' with _ ht
  exact hne ht
end

/-- An owned row reads on over a frame that leaves its block alone. -/
theorem ownsRow_fr {w w' : World} {base e size n : Nat} {v : Value} {xs : List Value} {B : Nat} {L : List Nat} (h : w.ownsRow base e size v n xs) (hb : Fr B L w w') (hv : ∀ k, v.ownBlock = some k → k < B ∧ k ∉ L) : w'.ownsRow base e size v n xs := by
  refine ⟨h.1, ?_⟩
  rcases h.2 with hn | ⟨g, cap, cur, rfl, hbg, hgg, rest⟩
  · exact .inl hn
  · obtain ⟨h1, h2⟩ := hv g rfl
    exact .inr ⟨g, cap, cur, rfl, hbg, (hb.block g h1 h2).trans hgg, rest⟩
/-- An owned row asks less of a lower base. -/
theorem ownsRow_base {w : World} {base base' e size n : Nat} {v : Value} {xs : List Value} (h : w.ownsRow base e size v n xs) (hb : base' ≤ base) : w.ownsRow base' e size v n xs := by
  refine ⟨h.1, ?_⟩
  rcases h.2 with hn | ⟨g, cap, cur, rfl, hbg, hgg, rest⟩
  · exact .inl hn
  · exact .inr ⟨g, cap, cur, rfl, by omega, hgg, rest⟩
/-- The base of an owned row may be taken for any number that its own block passes. -/
theorem ownsRow_rebase {w : World} {base base' e size n : Nat} {v : Value} {xs : List Value} (h : w.ownsRow base e size v n xs) (hb : ∀ k, v.ownBlock = some k → base' ≤ k) : w.ownsRow base' e size v n xs := by
  refine ⟨h.1, ?_⟩
  rcases h.2 with hn | ⟨g, cap, cur, rfl, hbg, hgg, rest⟩
  · exact .inl hn
  · exact .inr ⟨g, cap, cur, rfl, hb g rfl, hgg, rest⟩
/-- What an owned row's value looks like, whatever it has. -/
theorem ownsRow_shape {w : World} {base e size n : Nat} {v : Value} {xs : List Value} (h : w.ownsRow base e size v n xs) :
    ∃ A c, v = .slice A n c ∧ (∀ ad, A = some ad → ad.off = 0 ∧ ad.spot = none ∧ base ≤ ad.block ∧ ad.block < w.heap.size) ∧ n ≤ c ∧ (A = none → n = 0) := by
  rcases h.2 with ⟨rfl, rfl⟩ | ⟨g, cap, cur, rfl, hbg, hgg, hnc, _⟩
  · exact ⟨none, 0, rfl, by simp, Nat.le_refl _, fun _ => rfl⟩
  · refine ⟨some ⟨g, 0, none⟩, cap, rfl, ?_, hnc, by simp⟩
    rintro ad hA
    injection hA with hA
    subst hA
    exact ⟨rfl, rfl, hbg, (Array.getElem?_eq_some_iff.1 hgg).1⟩

theorem block_of_add (a : Addr) (n : Nat) : (a.add n).block = a.block := by unfold Addr.add; split <;> rfl
theorem add_of_add (a : Addr) (i j : Nat) : (a.add i).add j = a.add (i + j) := by
  unfold Addr.add
  by_cases hi : i = 0 <;> by_cases hj : j = 0 <;> simp [hi, hj, Nat.add_assoc]

/-- The slice '.slice A n c' (any c) holds the cells xs, 'size' for each element, in a block below B. -/
def Reads (w : World) (B size : Nat) (A : Option Addr) (n : Nat) (xs : List Value) : Prop :=
  xs.length = n * size ∧ (0 < n → ∃ b off, A = some ⟨b, off, none⟩ ∧ b < B ∧ ∀ j u, xs[j]? = some u → w.cell? ⟨b, off + j, none⟩ = some u)
section
variable {w w' : World} {B B' size n : Nat} {A : Option Addr} {xs : List Value}
theorem Reads.none_ : Reads w B size A 0 [] := ⟨by simp, fun h => absurd h (by omega)⟩
theorem Reads.keep (h : Reads w B size A n xs) (hk : ∀ p : Addr, p.block < B → w'.cell? p = w.cell? p) : Reads w' B size A n xs :=
  ⟨h.1, fun hn => by
    obtain ⟨b, off, e, hb, hc⟩ := h.2 hn
    exact ⟨b, off, e, hb, fun j u hu => (hk _ hb).trans (hc j u hu)⟩⟩
theorem Reads.more (h : Reads w B size A n xs) (hB : B ≤ B') : Reads w B' size A n xs :=
  ⟨h.1, fun hn => by
    obtain ⟨b, off, e, hb, hc⟩ := h.2 hn
    exact ⟨b, off, e, by omega, hc⟩⟩
theorem Reads.fr {L : List Nat} (h : Reads w B size A n xs) (hb : Fr B' L w w') (hB : B ≤ B') (hL : ∀ k ∈ L, B ≤ k) : Reads w' B size A n xs :=
  h.keep fun p hp => hb.cell (by omega) (fun hm => by have := hL _ hm; omega)
theorem Reads.frL {L : List Nat} (h : Reads w B size A n xs) (hb : Fr B' L w w') (hB : B ≤ B') (hL : 0 < n → ∀ ad, A = some ad → ad.block ∉ L) : Reads w' B size A n xs :=
  ⟨h.1, fun hn => by
    obtain ⟨b, off, e, hb', hc⟩ := h.2 hn
    exact ⟨b, off, e, hb', fun j u hu => (hb.cell (p := ⟨b, off + j, none⟩) (Nat.lt_of_lt_of_le hb' hB) (hL hn ⟨b, off, none⟩ e)).trans (hc j u hu)⟩⟩
theorem Reads.apart (h : Reads w B size A n xs) {g : Nat} (hg : B ≤ g) : 0 < n → ∀ ad, A = some ad → ad.block ≠ g := by
  rintro hn ad rfl
  obtain ⟨b, off, e, hb, _⟩ := h.2 hn
  injection e with e
  subst e
  show b ≠ g
  omega
theorem Reads.below (h : Reads w B size A n xs) (hb : Below B w w') : Reads w' B size A n xs := h.keep fun _ hp => hb.cell hp
theorem Reads.one {k : Nat} (h : Reads w B 1 A n xs) (hk : k < n) : ∃ b off u, A = some ⟨b, off, none⟩ ∧ b < B ∧ xs[k]? = some u ∧ w.cell? ⟨b, off + k, none⟩ = some u := by
  obtain ⟨b, off, e, hb, hc⟩ := h.2 (by omega)
  have hl : k < xs.length := by have := h.1; omega
  exact ⟨b, off, xs[k], e, hb, List.getElem?_eq_getElem hl, hc k _ (List.getElem?_eq_getElem hl)⟩
theorem Reads.of_own {base : Nat} {e : TypeId} {c : Nat} (h : w.ownsRow base e size (.slice A n c) n xs) : Reads w w.heap.size size A n xs := by
  refine ⟨h.1, fun hn => ?_⟩
  obtain ⟨g, cap, hv, _, hlt⟩ := h.form hn
  have hA : A = some ⟨g, 0, none⟩ := by injection hv
  subst hA
  refine ⟨g, 0, rfl, hlt, fun j u hu => ?_⟩
  have := h.cells (g := g) rfl j u hu
  unfold Addr.add at this
  split at this
  · rename_i h0; simpa [h0] using this
  · simpa using this
theorem Reads.of_blk {g : Nat} {t : TypeId} {cs : Array Value} {m : Nat} (h : Blk w g t cs) (hm : cs.size = m * size) : Reads w (g + 1) size (some ⟨g, 0, none⟩) m cs.toList :=
  ⟨by simpa using hm, fun _ => ⟨g, 0, rfl, by omega, fun j u hu => by rw [h.cell]; simpa using hu⟩⟩
end

/-- What the laws on append ask of a slice type t with elements e of so many cells and bytes. -/
structure SliceTy (P : Program) (t e size bytes : Nat) : Prop where
  ht : P.underlying t = some (.slice e)
  hi : ∃ i z, P.info? e = some i ∧ i.zero = some z ∧ i.size = size ∧ i.bytes = bytes ∧ z.cells.size = size
  pos : 0 < size
theorem SliceTy.mk' {P : Program} {t e size bytes : Nat} {z : Value} (ht : P.underlying t = some (.slice e)) (h : (P.info? e).map (fun i => (i.zero, i.size, i.bytes)) = some (some z, size, bytes)) (hz : z.cells.size = size) (hs : 0 < size) : SliceTy P t e size bytes := by
  obtain ⟨i, h1, h2, h3, h4⟩ := info_parts h
  exact ⟨ht, ⟨i, z, h1, h2, h3, h4, hz⟩, hs⟩

section
variable {P : Program} (w : World)
theorem run_append_of_nil (base : Nat) (t ty e : TypeId) (i : TypeInfo) (size : Nat) (ht : P.underlying t = some (.slice e)) (hi : P.info? e = some i)
    (v : Value) (n : Nat) (xs : List Value) (hown : w.ownsRow base e size v n xs) (c : Nat) : (Builtin.append_ #[t, t] ty #[v, .slice none 0 c]).run P w = .ok v w := by
  rcases hown.2 with ⟨rfl, rfl⟩ | ⟨g, cap, cur, rfl, _, _, hnc, _⟩
  · simp [Builtin.append_, run_underlying ht, sizeOf, typeInfo, hi, Builtin.lenOf, Builtin.firstCells]
  · simp [Builtin.append_, run_underlying ht, sizeOf, typeInfo, hi, Builtin.lenOf, Builtin.firstCells, hnc, storeCells]

/-- append onto an owned row, the source nil, empty or not: the new value written out, and where it lies. -/
theorem run_app {t e size bytes : Nat} (T : SliceTy P t e size bytes) (ty : TypeId) (base : Nat) (v : Value) (n : Nat) (xs : List Value) (hown : w.ownsRow base e size v n xs)
    (B : Nat) (A : Option Addr) (m c : Nat) (news : List Value) (hr : Reads w B size A m news) (h1 : ∀ u ∈ news, u.oneCell' = true)
    (h63 : n + m ≤ 1073741824) (hb : bytes ≤ 131072) (hbase : base ≤ w.heap.size) :
    ∃ A' c' w', (Builtin.append_ #[t, t] ty #[v, .slice A m c]).run P w = .ok (.slice A' (n + m) c') w' ∧ w'.ownsRow base e size (.slice A' (n + m) c') (n + m) (xs ++ news) ∧ w.grownBy w' v.ownBlock ∧
      (Value.ownBlock (.slice A' (n + m) c') = v.ownBlock ∨ Value.ownBlock (.slice A' (n + m) c') = some w.heap.size) := by
  obtain ⟨i, z, hi, hz, hsize, hby, hzs⟩ := T.hi
  have hml : n + m ≤ maxLen := by unfold maxLen; omega
  have hbytes : (n + m) * bytes ≤ 140737488355328 := Nat.le_trans (Nat.mul_le_mul h63 hb) (by decide)
  have hcells : ∀ ad, A = some ad → ∀ j u, news[j]? = some u → w.cell? (ad.add j) = some u := by
    rintro ad rfl j u hu
    rcases Nat.eq_zero_or_pos m with h0 | h0
    · subst h0
      have hn : news = [] := List.eq_nil_of_length_eq_zero (by simpa using hr.1)
      subst hn
      simp at hu
    · obtain ⟨b, off, h, _, hc⟩ := hr.2 h0
      injection h with h
      subst h
      have : (⟨b, off, none⟩ : Addr).add j = ⟨b, off + j, none⟩ := by unfold Addr.add; split <;> simp_all
      rw [this]
      exact hc j u hu
  have key : ∃ v' w', (Builtin.append_ #[t, t] ty #[v, .slice A m c]).run P w = .ok v' w' ∧ w'.ownsRow base e size v' (n + m) (xs ++ news) ∧ w.grownBy w' v.ownBlock ∧ (v'.ownBlock = v.ownBlock ∨ v'.ownBlock = some w.heap.size) := by
    rcases A with _ | ad
    · have hm : m = 0 := by
        rcases Nat.eq_zero_or_pos m with h0 | h0
        · exact h0
        · obtain ⟨b, off, h, _⟩ := hr.2 h0
          cases h
      subst hm
      have hn : news = [] := List.eq_nil_of_length_eq_zero (by simpa using hr.1)
      subst hn
      exact ⟨v, w, run_append_of_nil w base t ty e i size T.ht hi v n xs hown c, by simpa using hown, ⟨rfl, rfl, rfl, Nat.le_refl _, fun _ _ _ => rfl⟩, .inl rfl⟩
    · obtain ⟨v', w', hrun, h2, h3, _, h5⟩ := run_append_own_at (P := P) w base t ty e i z size bytes T.ht hi hz hsize hby hzs T.pos v n xs hown ad m c news hr.1 (hcells ad rfl) h1 hml hbytes hbase
      exact ⟨v', w', hrun, h2, h3, h5⟩
  obtain ⟨v', w', hrun, h2, h3, h4⟩ := key
  obtain ⟨A', c', rfl, _⟩ := ownsRow_shape h2
  exact ⟨A', c', w', hrun, h2, h3, h4⟩

theorem wp_app {o : Oper} {a : Act} {K : Act → World → Prop} {Q : Exit → Act → World → Prop} (s x : Operand) {t e size bytes : Nat} (T : SliceTy P t e size bytes)
    (ho : o.op = .call { callee := .builtin .append, args := #[s, x], argTypes := #[t, t] })
    (base : Nat) (v : Value) (n : Nat) (xs : List Value) (hs : a.eval s = v) (hown : w.ownsRow base e size v n xs)
    (B : Nat) (A : Option Addr) (m c : Nat) (news : List Value) (hx : a.eval x = .slice A m c) (hr : Reads w B size A m news) (h1 : ∀ u ∈ news, u.oneCell' = true)
    (h63 : n + m ≤ 1073741824) (hb : bytes ≤ 131072) (hbase : base ≤ w.heap.size)
    (h : ∀ A' c' w', w'.ownsRow base e size (.slice A' (n + m) c') (n + m) (xs ++ news) → w.grownBy w' v.ownBlock →
      (Value.ownBlock (.slice A' (n + m) c') = v.ownBlock ∨ Value.ownBlock (.slice A' (n + m) c') = some w.heap.size) → K (a.put o.dst (.slice A' (n + m) c')) w') : o.wp P a w K Q := by
  obtain ⟨A', c', w', hrun, h2, h3, h4⟩ := run_app (P := P) w T o.type base v n xs hown B A m c news hr h1 h63 hb hbase
  unfold Oper.wp execOp
  simp only [ho, resolve, invoke, builtin, Sem.run_bind, Sem.run_pure, Result.andThen_ok, List.map_toArray, List.map_cons, List.map_nil, hs, hx, hrun]
  exact h A' c' w' h2 h3 h4

theorem wpList_app {ops : Array Oper} {rest : List Oper} {o : Oper} {a : Act} {Q : Exit → Act → World → Prop} (hgd : o.guard = none) (s x : Operand) {t e size bytes : Nat} (T : SliceTy P t e size bytes)
    (ho : o.op = .call { callee := .builtin .append, args := #[s, x], argTypes := #[t, t] })
    (base : Nat) (v : Value) (n : Nat) (xs : List Value) (hs : a.eval s = v) (hown : w.ownsRow base e size v n xs)
    (B : Nat) (A : Option Addr) (m c : Nat) (news : List Value) (hx : a.eval x = .slice A m c) (hr : Reads w B size A m news) (h1 : ∀ u ∈ news, u.oneCell' = true)
    (h63 : n + m ≤ 1073741824) (hb : bytes ≤ 131072) (hbase : base ≤ w.heap.size)
    (h : ∀ A' c' w', w'.ownsRow base e size (.slice A' (n + m) c') (n + m) (xs ++ news) → w.grownBy w' v.ownBlock →
      (Value.ownBlock (.slice A' (n + m) c') = v.ownBlock ∨ Value.ownBlock (.slice A' (n + m) c') = some w.heap.size) → wpList P ops Q rest (a.put o.dst (.slice A' (n + m) c')) w') : wpList P ops Q (o :: rest) a w :=
  wpList_plain hgd fun _ hK => wp_app w s x T ho base v n xs hs hown B A m c news hx hr h1 h63 hb hbase fun A' c' w' h2 h3 h4 => hK _ _ (h A' c' w' h2 h3 h4)
end

/-- An append whose source is the literal that was laid just ahead of it. -/
theorem wpList_app_lit {P : Program} (w : World) {ops : Array Oper} {rest : List Oper} {o : Oper} {a : Act} {Q : Exit → Act → World → Prop} (hgd : o.guard = none) (s x : Operand) {t e size bytes : Nat} (T : SliceTy P t e size bytes)
    (ho : o.op = .call { callee := .builtin .append, args := #[s, x], argTypes := #[t, t] })
    (base : Nat) (v : Value) (n : Nat) (xs : List Value) (hs : a.eval s = v) (hown : w.ownsRow base e size v n xs)
    (m c : Nat) (news : Array Value) (hx : a.eval x = .slice (some ⟨w.heap.size, 0, none⟩) m c) (hm : news.size = m * size) (h1 : ∀ u ∈ news.toList, u.oneCell' = true)
    (h63 : n + m ≤ 1073741824) (hb : bytes ≤ 131072) (hbase : base ≤ w.heap.size)
    (h : ∀ A' c' w', w'.ownsRow base e size (.slice A' (n + m) c') (n + m) (xs ++ news.toList) → (w.alloc (.cells news e)).grownBy w' v.ownBlock →
      (Value.ownBlock (.slice A' (n + m) c') = v.ownBlock ∨ Value.ownBlock (.slice A' (n + m) c') = some (w.heap.size + 1)) → wpList P ops Q rest (a.put o.dst (.slice A' (n + m) c')) w') : wpList P ops Q (o :: rest) a (w.alloc (.cells news e)) :=
  wpList_app _ hgd s x T ho base v n xs hs (hown.alloc _) (w.heap.size + 1) _ m c news.toList hx (Reads.of_blk (Blk.new w e news) hm) h1 h63 hb (by simp; omega) (fun A' c' w' h2 h3 h4 => h A' c' w' h2 h3 (by simpa using h4))

/-- An owned row stays owned while a cell of another block is written. -/
theorem ownsRow_setCell_other {w : World} {base e size n : Nat} {v : Value} {xs : List Value} (h : w.ownsRow base e size v n xs) {p : Addr} (hp : v.ownBlock ≠ some p.block) (u : Value) : (w.setCell p u).ownsRow base e size v n xs := by
  refine ⟨h.1, ?_⟩
  rcases h.2 with hn | ⟨g, cap, cur, rfl, hbg, hgg, rest⟩
  · exact .inl hn
  · exact .inr ⟨g, cap, cur, rfl, hbg, (Below.heap_setCell w p u g (fun e => hp (by simp [Value.ownBlock, e]))).trans hgg, rest⟩
/-- A block of another element type is not the row's own. -/
theorem Blk.ne_own {w : World} {g t : Nat} {cs : Array Value} {base e size n : Nat} {v : Value} {xs : List Value} (hb : Blk w g t cs) (h : w.ownsRow base e size v n xs) (hne : e ≠ t) : some g ≠ v.ownBlock := by
  intro he
  rcases h.2 with ⟨rfl, _⟩ | ⟨g', cap, cur, rfl, _, hgg, _⟩
  · cases he
  · have he' : g = g' := by simpa [Value.ownBlock] using he
    subst he'
    unfold Blk at hb
    rw [hgg] at hb
    injection hb with hb
    injection hb with _ ht
    exact hne ht
/-- string(b) of an owned row of bytes. -/
theorem run_convert_own {P : Program} {w : World} {src e dst : TypeId} (hs : P.underlying src = some (.slice e)) (he : P.underlying e = some (.int .u8)) (hd : P.underlying dst = some .string) {base n : Nat} {v : Value} {bs : List Int}
    (h : w.ownsRow base e 1 v n (bs.map (Value.int .u8))) : (convert src dst v).run P w = .ok (.string (strOfNums bs)) w := by
  have hl : bs.length = n := by simpa using h.1
  rcases h.2 with ⟨rfl, rfl⟩ | ⟨g, cap, cur, rfl, _, hgg, _⟩
  · have : bs = [] := List.eq_nil_of_length_eq_zero hl
    subst this
    rw [run_convert_bytes_nil w src e hs he 0 0 dst hd]
    rfl
  · refine run_convert_bytes_arg w src e hs he g 0 n cap bs hl (fun i hi => ?_) dst hd
    have hx := h.cells (g := g) rfl i (.int .u8 (bs.getD i 0)) (by
      rw [List.getElem?_map, List.getElem?_eq_getElem (by omega)]
      simp [List.getD, List.getElem?_eq_getElem (show i < bs.length by omega)])
    have : (⟨g, 0, none⟩ : Addr).add i = ⟨g, 0 + i, none⟩ := by unfold Addr.add; split <;> simp_all
    rw [← this]
    exact hx
/-- A string's bytes as numbers. -/
def bl (s : ByteArray) : List Int := s.data.toList.map fun b => (b.toNat : Int)
theorem bl_length (s : ByteArray) : (bl s).length = s.size := by
  unfold bl
  rw [List.length_map, Array.length_toList]
  rfl
theorem bl_range (s : ByteArray) : ∀ x ∈ bl s, 0 ≤ x ∧ x < 256 := by
  intro x hx
  obtain ⟨b, _, rfl⟩ := List.mem_map.1 hx
  have := b.toNat_lt
  omega
theorem bl_inj {s t : ByteArray} (h : bl s = bl t) : s = t := by
  apply WideShapes.bytes_inj
  have hf : ∀ {a b : UInt8}, ((a.toNat : Nat) : Int) = (b.toNat : Int) → a = b := fun h => UInt8.toNat_inj.1 (by omega)
  generalize hs : s.data.toList = x at *
  generalize ht : t.data.toList = y at *
  unfold bl at h
  rw [hs, ht] at h
  clear hs ht
  induction x generalizing y with
  | nil => cases y with
    | nil => rfl
    | cons b y => simp at h
  | cons a x ih => cases y with
    | nil => simp at h
    | cons b y =>
      simp only [List.map_cons, List.cons.injEq] at h
      rw [hf h.1, ih y h.2]
theorem bl_strOfNums {l : List Int} (h : ∀ x ∈ l, 0 ≤ x ∧ x < 256) : bl (strOfNums l) = l := by
  unfold bl
  rw [strOfNums_data, List.map_map]
  conv => rhs; rw [← List.map_id l]
  apply List.map_congr_left
  intro x hx
  have := h x hx
  simp only [Function.comp, UInt8.toNat_ofNat', id]
  omega
theorem bl_extract (s : ByteArray) (a b : Nat) : bl (s.extract a b) = ((bl s).take b).drop a := by
  have h : (s.extract a b).data.toList = (s.data.toList.take b).drop a := by
    rw [ByteArray.data_extract, Array.toList_extract, List.extract_eq_take_drop, List.drop_take]
  unfold bl
  rw [h, ← List.map_take, ← List.map_drop]
theorem bl_append (s t : ByteArray) : bl (s ++ t) = bl s ++ bl t := by
  unfold bl
  rw [ByteArray.data_append, Array.toList_append, List.map_append]

/-- []byte(s): a new row that holds the bytes; nothing else turns. -/
theorem conv_bytes {P : Program} {w : World} {src dst e : TypeId} (s : ByteArray) (hs : P.underlying src = some .string) (hd : P.underlying dst = some (.slice e)) (he : P.underlying e = some (.int .u8)) :
    ∃ c w', (convert src dst (.string s)).run P w = .ok (.slice (some ⟨w.heap.size, 0, none⟩) s.size c) w' ∧ Reads w' (w.heap.size + 1) 1 (some ⟨w.heap.size, 0, none⟩) s.size ((bl s).map (Value.int .u8)) ∧ Fr w.heap.size [] w w' ∧ w'.heap.size = w.heap.size + 1 ∧ s.size ≤ c := by
  refine ⟨_, _, run_bytes_of_string w src dst e s hs hd he, ⟨by simp [bl_length], fun _ => ⟨_, 0, rfl, by omega, fun j u hu => ?_⟩⟩, ?_, by simp, grownCap_ge _ _ _ _⟩
  · have hj : j < (bl s).length := by
      rcases Nat.lt_or_ge j (bl s).length with h | h
      · exact h
      · rw [List.getElem?_eq_none (by simpa using h)] at hu; cases hu
    have hb : _ = _ := heap_alloc_new w.drew (.cells (bytesRow s (grownCap w s.size 0 e)) e ((bytesRow s (grownCap w s.size 0 e)).size, (bytesRow s (grownCap w s.size 0 e)).size + 1))
    refine (cell_of_row _ _ _ _ _ _ hb).trans ?_
    rw [bl_length] at hj
    rw [← hu, Nat.zero_add]
    simp [bytesRow, bl, Array.getElem?_append, hj, Function.comp_def]
  · exact ⟨rfl, rfl, rfl, by simp, fun k hk _ => Below.heap_alloc w.drew _ k hk⟩
theorem Fr.of_app {w w' : World} {o : Obj} {base : Nat} {v : Value} {e size n : Nat} {xs : List Value} (hg : (w.alloc o).grownBy w' v.ownBlock) (hown : w.ownsRow base e size v n xs) (hbase : base ≤ w.heap.size) : Fr base [] w w' :=
  (((Fr.refl base [] w).alloc hbase o).grown hg (by simp; omega) (fun k hk => .inl (hown.lt k hk).1))

/-- An array's element, whatever the index. -/
theorem run_index_arr {P : Program} {t e : TypeId} {len : Nat} {kd kd' : IntKind} {i : TypeInfo} (ht : P.underlying t = some (.array len e)) (he : P.underlying e = some (.int kd')) (hi : P.info? e = some i) (hs : i.size = 1)
    {cs : Array Value} {k : Nat} (hk : k < len) {v : Value} (hv : cs[k]? = some v) (w : World) : (Instr.index t (.agg cs) (.int kd (k : Int))).run P w = .ok v w := by
  simp [Instr.index, asIntOf, run_underlying ht, run_underlying he, sizeOf, typeInfo, hi, hs, part, isAgg, hv]
  omega
end Go.Fb
