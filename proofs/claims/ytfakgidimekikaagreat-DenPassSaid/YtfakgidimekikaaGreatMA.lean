/- Texts merged into one, for the number of files a claim may have: W, Chk, Code, Arr, RouteA, RouteB, Nd, Mul, SetL, CapN, StepApp, Ref4, Tell. -/
import Derived.Test.YtfakgidimekikaaGreatRows
import Derived.WalkKit
import Derived.WalkLawsBesides
import Derived.WalkSpells
import Derived.Lib.Hide
import Derived.Maps.AppendAt
import Derived.Deep.AppendLies
import Derived.Deep.Draws
import Derived.Deep.QuietTactic
import Derived.BigQuiet
namespace Go.Fb
open Go.RowKit

/-- A frame: below block number B, but for the blocks in L, nothing has turned. -/
structure Fr (B : Nat) (L : List Nat) (w w' : World) : Prop where
  os : w'.os = w.os
  tape : w'.tape = w.tape
  output : w'.output = w.output
  size : w.heap.size ≤ w'.heap.size
  block : ∀ k, k < B → k ∉ L → w'.heap[k]? = w.heap[k]?

theorem Fr.refl (B : Nat) (L : List Nat) (w : World) : Fr B L w w := ⟨rfl, rfl, rfl, Nat.le_refl _, fun _ _ _ => rfl⟩
theorem Fr.trans {B : Nat} {L : List Nat} {a b c : World} (h : Fr B L a b) (k : Fr B L b c) : Fr B L a c :=
  ⟨k.os.trans h.os, k.tape.trans h.tape, k.output.trans h.output, Nat.le_trans h.size k.size, fun i hi hn => (k.block i hi hn).trans (h.block i hi hn)⟩
theorem Fr.mono {B B' : Nat} {L L' : List Nat} {w w' : World} (h : Fr B L w w') (hB : B' ≤ B) (hL : ∀ k, k ∈ L → k < B' → k ∈ L') : Fr B' L' w w' :=
  ⟨h.os, h.tape, h.output, h.size, fun k hk hn => h.block k (Nat.lt_of_lt_of_le hk hB) (fun hm => hn (hL k hm hk))⟩
theorem Fr.drew {B : Nat} {L : List Nat} {a w : World} (h : Fr B L a w) : Fr B L a w.drew := ⟨h.os, h.tape, h.output, h.size, h.block⟩
theorem Fr.drewN {B : Nat} {L : List Nat} {a w : World} (h : Fr B L a w) (n : Nat) : Fr B L a (w.drewN n) := ⟨h.os, h.tape, h.output, h.size, h.block⟩
theorem Fr.alloc {B : Nat} {L : List Nat} {a w : World} (h : Fr B L a w) (hB : B ≤ w.heap.size) (o : Obj) : Fr B L a (w.alloc o) :=
  h.trans ⟨rfl, rfl, rfl, by simp, fun k hk _ => Below.heap_alloc _ _ _ (by omega)⟩
theorem Fr.setCell {B : Nat} {L : List Nat} {a w : World} (h : Fr B L a w) {p : Addr} (hp : B ≤ p.block ∨ p.block ∈ L) (u : Value) : Fr B L a (w.setCell p u) :=
  h.trans ⟨rfl, rfl, rfl, by simp [World.setCell], fun k hk hn => Below.heap_setCell _ _ _ _ (by
    rintro rfl
    rcases hp with hp | hp
    · omega
    · exact hn hp)⟩
theorem Fr.grown {B : Nat} {L : List Nat} {a w w' : World} {row : Option Nat} (h : Fr B L a w) (hg : w.grownBy w' row) (hB : B ≤ w.heap.size) (hr : ∀ k, row = some k → B ≤ k ∨ k ∈ L) : Fr B L a w' :=
  h.trans ⟨hg.os, hg.tape, hg.output, hg.size, fun k hk hn => hg.block k (by omega) (fun e => by
    rcases hr k e.symm with h | h
    · omega
    · exact hn h)⟩
theorem Fr.of_below {B : Nat} {L : List Nat} {w w' : World} (h : Below B w w') : Fr B L w w' := ⟨h.os, h.tape, h.output, h.size, fun k hk _ => h.block k hk⟩
theorem Fr.below {B : Nat} {w w' : World} (h : Fr B [] w w') : Below B w w' := ⟨h.os, h.tape, h.output, h.size, fun k hk => h.block k hk (by simp)⟩
theorem _root_.Go.RowKit.Below.drewN {B : Nat} {a w : World} (h : Below B a w) (n : Nat) : Below B a (w.drewN n) := ⟨h.os, h.tape, h.output, h.size, h.block⟩
theorem Fr.cell {B : Nat} {L : List Nat} {w w' : World} (h : Fr B L w w') {p : Addr} (hp : p.block < B) (hn : p.block ∉ L) : w'.cell? p = w.cell? p := World.cell?_of_block (w := w) (h.block p.block hp hn)
theorem Fr.frozen {B : Nat} {L : List Nat} {w w' : World} (h : Fr B L w w') {p : Addr} (hp : p.block < B) (hn : p.block ∉ L) : w'.frozen? p = w.frozen? p := World.frozen?_of_block (w := w) (h.block p.block hp hn)

/-- A block that is known whole, no cell of it frozen. -/
def Blk (w : World) (g : Nat) (t : TypeId) (cs : Array Value) : Prop := w.heap[g]? = some (.cells cs t (0, 0))
section
variable {w w' : World} {g : Nat} {t : TypeId} {cs : Array Value}
theorem Blk.lt (h : Blk w g t cs) : g < w.heap.size := by
  rcases Nat.lt_or_ge g w.heap.size with hlt | hge
  · exact hlt
  · unfold Blk at h; rw [Array.getElem?_eq_none hge] at h; cases h
theorem Blk.cell (h : Blk w g t cs) (i : Nat) : w.cell? ⟨g, i, none⟩ = cs[i]? := cell_of_row w g i cs t (0, 0) h
theorem Blk.frozen (h : Blk w g t cs) (i : Nat) : w.frozen? ⟨g, i, none⟩ = false := by
  unfold Blk at h
  simp [World.frozen?, h]
theorem Blk.new (w : World) (t : TypeId) (cs : Array Value) : Blk (w.alloc (.cells cs t)) w.heap.size t cs := heap_alloc_new w _
theorem Blk.drew (h : Blk w g t cs) : Blk w.drew g t cs := h
theorem Blk.drewN (h : Blk w g t cs) (n : Nat) : Blk (w.drewN n) g t cs := h
theorem Blk.alloc (h : Blk w g t cs) (o : Obj) : Blk (w.alloc o) g t cs := (Below.heap_alloc w o g h.lt).trans h
theorem Blk.set_ (h : Blk w g t cs) (i : Nat) (u : Value) : Blk (w.setCell ⟨g, i, none⟩ u) g t (cs.setIfInBounds i u) := by
  unfold Blk at h ⊢
  simp [World.setCell, Array.getElem?_modify, h]
theorem Blk.far (h : Blk w g t cs) {p : Addr} (hp : g ≠ p.block) (u : Value) : Blk (w.setCell p u) g t cs := (Below.heap_setCell w p u g hp).trans h
theorem Blk.fr {B : Nat} {L : List Nat} (h : Blk w g t cs) (hb : Fr B L w w') (hg : g < B) (hn : g ∉ L) : Blk w' g t cs := (hb.block g hg hn).trans h
theorem Blk.below {B : Nat} (h : Blk w g t cs) (hb : Below B w w') (hg : g < B) : Blk w' g t cs := (hb.block g hg).trans h
theorem Blk.grown {row : Option Nat} (h : Blk w g t cs) (hb : w.grownBy w' row) (hg : some g ≠ row) : Blk w' g t cs := (hb.block g h.lt hg).trans h
theorem Blk.ne_ {g' : Nat} {t' : TypeId} {cs' : Array Value} (h : Blk w g t cs) (h' : Blk w g' t' cs') (hne : t ≠ t') : g ≠ g' := by
  rintro rfl
  unfold Blk at h h'
  rw [h] at h'
  injection h' with h'
  injection h' with _ ht
  exact hne ht
end

/-- An owned row reads on over a frame that leaves its block alone. -/
theorem ownsRow_fr {w w' : World} {base e size n : Nat} {v : Value} {xs : List Value} {B : Nat} {L : List Nat} (h : w.ownsRow base e size v n xs) (hb : Fr B L w w') (hv : ∀ k, v.ownBlock = some k → k < B ∧ k ∉ L) : w'.ownsRow base e size v n xs := by
  refine ⟨h.1, ?_⟩
  rcases h.2 with hn | ⟨g, cap, cur, rfl, hbg, hgg, rest⟩
  · exact .inl hn
  · obtain ⟨h1, h2⟩ := hv g rfl
    exact .inr ⟨g, cap, cur, rfl, hbg, (hb.block g h1 h2).trans hgg, rest⟩
/-- An owned row asks less of a lower base. -/
theorem ownsRow_base {w : World} {base base' e size n : Nat} {v : Value} {xs : List Value} (h : w.ownsRow base e size v n xs) (hb : base' ≤ base) : w.ownsRow base' e size v n xs := by
  refine ⟨h.1, ?_⟩
  rcases h.2 with hn | ⟨g, cap, cur, rfl, hbg, hgg, rest⟩
  · exact .inl hn
  · exact .inr ⟨g, cap, cur, rfl, by omega, hgg, rest⟩
/-- The base of an owned row may be taken for any number that its own block passes. -/
theorem ownsRow_rebase {w : World} {base base' e size n : Nat} {v : Value} {xs : List Value} (h : w.ownsRow base e size v n xs) (hb : ∀ k, v.ownBlock = some k → base' ≤ k) : w.ownsRow base' e size v n xs := by
  refine ⟨h.1, ?_⟩
  rcases h.2 with hn | ⟨g, cap, cur, rfl, hbg, hgg, rest⟩
  · exact .inl hn
  · exact .inr ⟨g, cap, cur, rfl, hb g rfl, hgg, rest⟩
/-- What an owned row's value looks like, whatever it has. -/
theorem ownsRow_shape {w : World} {base e size n : Nat} {v : Value} {xs : List Value} (h : w.ownsRow base e size v n xs) :
    ∃ A c, v = .slice A n c ∧ (∀ ad, A = some ad → ad.off = 0 ∧ ad.spot = none ∧ base ≤ ad.block ∧ ad.block < w.heap.size) ∧ n ≤ c ∧ (A = none → n = 0) := by
  rcases h.2 with ⟨rfl, rfl⟩ | ⟨g, cap, cur, rfl, hbg, hgg, hnc, _⟩
  · exact ⟨none, 0, rfl, by simp, Nat.le_refl _, fun _ => rfl⟩
  · refine ⟨some ⟨g, 0, none⟩, cap, rfl, ?_, hnc, by simp⟩
    rintro ad hA
    injection hA with hA
    subst hA
    exact ⟨rfl, rfl, hbg, (Array.getElem?_eq_some_iff.1 hgg).1⟩

theorem block_of_add (a : Addr) (n : Nat) : (a.add n).block = a.block := by unfold Addr.add; split <;> rfl
theorem add_of_add (a : Addr) (i j : Nat) : (a.add i).add j = a.add (i + j) := by
  unfold Addr.add
  by_cases hi : i = 0 <;> by_cases hj : j = 0 <;> simp [hi, hj, Nat.add_assoc]

/-- The slice '.slice A n c' (any c) holds the cells xs, 'size' for each element, in a block below B. -/
def Reads (w : World) (B size : Nat) (A : Option Addr) (n : Nat) (xs : List Value) : Prop :=
  xs.length = n * size ∧ (0 < n → ∃ b off, A = some ⟨b, off, none⟩ ∧ b < B ∧ ∀ j u, xs[j]? = some u → w.cell? ⟨b, off + j, none⟩ = some u)
section
variable {w w' : World} {B B' size n : Nat} {A : Option Addr} {xs : List Value}
theorem Reads.none_ : Reads w B size A 0 [] := ⟨by simp, fun h => absurd h (by omega)⟩
theorem Reads.keep (h : Reads w B size A n xs) (hk : ∀ p : Addr, p.block < B → w'.cell? p = w.cell? p) : Reads w' B size A n xs :=
  ⟨h.1, fun hn => by
    obtain ⟨b, off, e, hb, hc⟩ := h.2 hn
    exact ⟨b, off, e, hb, fun j u hu => (hk _ hb).trans (hc j u hu)⟩⟩
theorem Reads.more (h : Reads w B size A n xs) (hB : B ≤ B') : Reads w B' size A n xs :=
  ⟨h.1, fun hn => by
    obtain ⟨b, off, e, hb, hc⟩ := h.2 hn
    exact ⟨b, off, e, by omega, hc⟩⟩
theorem Reads.fr {L : List Nat} (h : Reads w B size A n xs) (hb : Fr B' L w w') (hB : B ≤ B') (hL : ∀ k ∈ L, B ≤ k) : Reads w' B size A n xs :=
  h.keep fun p hp => hb.cell (by omega) (fun hm => by have := hL _ hm; omega)
theorem Reads.frL {L : List Nat} (h : Reads w B size A n xs) (hb : Fr B' L w w') (hB : B ≤ B') (hL : 0 < n → ∀ ad, A = some ad → ad.block ∉ L) : Reads w' B size A n xs :=
  ⟨h.1, fun hn => by
    obtain ⟨b, off, e, hb', hc⟩ := h.2 hn
    exact ⟨b, off, e, hb', fun j u hu => (hb.cell (p := ⟨b, off + j, none⟩) (Nat.lt_of_lt_of_le hb' hB) (hL hn ⟨b, off, none⟩ e)).trans (hc j u hu)⟩⟩
theorem Reads.apart (h : Reads w B size A n xs) {g : Nat} (hg : B ≤ g) : 0 < n → ∀ ad, A = some ad → ad.block ≠ g := by
  rintro hn ad rfl
  obtain ⟨b, off, e, hb, _⟩ := h.2 hn
  injection e with e
  subst e
  show b ≠ g
  omega
theorem Reads.below (h : Reads w B size A n xs) (hb : Below B w w') : Reads w' B size A n xs := h.keep fun _ hp => hb.cell hp
theorem Reads.one {k : Nat} (h : Reads w B 1 A n xs) (hk : k < n) : ∃ b off u, A = some ⟨b, off, none⟩ ∧ b < B ∧ xs[k]? = some u ∧ w.cell? ⟨b, off + k, none⟩ = some u := by
  obtain ⟨b, off, e, hb, hc⟩ := h.2 (by omega)
  have hl : k < xs.length := by have := h.1; omega
  exact ⟨b, off, xs[k], e, hb, List.getElem?_eq_getElem hl, hc k _ (List.getElem?_eq_getElem hl)⟩
theorem Reads.of_own {base : Nat} {e : TypeId} {c : Nat} (h : w.ownsRow base e size (.slice A n c) n xs) : Reads w w.heap.size size A n xs := by
  refine ⟨h.1, fun hn => ?_⟩
  obtain ⟨g, cap, hv, _, hlt⟩ := h.form hn
  have hA : A = some ⟨g, 0, none⟩ := by injection hv
  subst hA
  refine ⟨g, 0, rfl, hlt, fun j u hu => ?_⟩
  have := h.cells (g := g) rfl j u hu
  unfold Addr.add at this
  split at this
  · rename_i h0; simpa [h0] using this
  · simpa using this
theorem Reads.of_blk {g : Nat} {t : TypeId} {cs : Array Value} {m : Nat} (h : Blk w g t cs) (hm : cs.size = m * size) : Reads w (g + 1) size (some ⟨g, 0, none⟩) m cs.toList :=
  ⟨by simpa using hm, fun _ => ⟨g, 0, rfl, by omega, fun j u hu => by rw [h.cell]; simpa using hu⟩⟩
end

/-- What the laws on append ask of a slice type t with elements e of so many cells and bytes. -/
structure SliceTy (P : Program) (t e size bytes : Nat) : Prop where
  ht : P.underlying t = some (.slice e)
  hi : ∃ i z, P.info? e = some i ∧ i.zero = some z ∧ i.size = size ∧ i.bytes = bytes ∧ z.cells.size = size
  pos : 0 < size
theorem SliceTy.mk' {P : Program} {t e size bytes : Nat} {z : Value} (ht : P.underlying t = some (.slice e)) (h : (P.info? e).map (fun i => (i.zero, i.size, i.bytes)) = some (some z, size, bytes)) (hz : z.cells.size = size) (hs : 0 < size) : SliceTy P t e size bytes := by
  obtain ⟨i, h1, h2, h3, h4⟩ := info_parts h
  exact ⟨ht, ⟨i, z, h1, h2, h3, h4, hz⟩, hs⟩

section
variable {P : Program} (w : World)
theorem run_append_of_nil (base : Nat) (t ty e : TypeId) (i : TypeInfo) (size : Nat) (ht : P.underlying t = some (.slice e)) (hi : P.info? e = some i)
    (v : Value) (n : Nat) (xs : List Value) (hown : w.ownsRow base e size v n xs) (c : Nat) : (Builtin.append_ #[t, t] ty #[v, .slice none 0 c]).run P w = .ok v w := by
  rcases hown.2 with ⟨rfl, rfl⟩ | ⟨g, cap, cur, rfl, _, _, hnc, _⟩
  · simp [Builtin.append_, run_underlying ht, sizeOf, typeInfo, hi, Builtin.lenOf, Builtin.firstCells]
  · simp [Builtin.append_, run_underlying ht, sizeOf, typeInfo, hi, Builtin.lenOf, Builtin.firstCells, hnc, storeCells]

/-- append onto an owned row, the source nil, empty or not: the new value written out, and where it lies. -/
theorem run_app {t e size bytes : Nat} (T : SliceTy P t e size bytes) (ty : TypeId) (base : Nat) (v : Value) (n : Nat) (xs : List Value) (hown : w.ownsRow base e size v n xs)
    (B : Nat) (A : Option Addr) (m c : Nat) (news : List Value) (hr : Reads w B size A m news) (h1 : ∀ u ∈ news, u.oneCell' = true)
    (h63 : n + m ≤ 1073741824) (hb : bytes ≤ 131072) (hbase : base ≤ w.heap.size) :
    ∃ A' c' w', (Builtin.append_ #[t, t] ty #[v, .slice A m c]).run P w = .ok (.slice A' (n + m) c') w' ∧ w'.ownsRow base e size (.slice A' (n + m) c') (n + m) (xs ++ news) ∧ w.grownBy w' v.ownBlock ∧
      (Value.ownBlock (.slice A' (n + m) c') = v.ownBlock ∨ Value.ownBlock (.slice A' (n + m) c') = some w.heap.size) := by
  obtain ⟨i, z, hi, hz, hsize, hby, hzs⟩ := T.hi
  have hml : n + m ≤ maxLen := by unfold maxLen; omega
  have hbytes : (n + m) * bytes ≤ 140737488355328 := Nat.le_trans (Nat.mul_le_mul h63 hb) (by decide)
  have hcells : ∀ ad, A = some ad → ∀ j u, news[j]? = some u → w.cell? (ad.add j) = some u := by
    rintro ad rfl j u hu
    rcases Nat.eq_zero_or_pos m with h0 | h0
    · subst h0
      have hn : news = [] := List.eq_nil_of_length_eq_zero (by simpa using hr.1)
      subst hn
      simp at hu
    · obtain ⟨b, off, h, _, hc⟩ := hr.2 h0
      injection h with h
      subst h
      have : (⟨b, off, none⟩ : Addr).add j = ⟨b, off + j, none⟩ := by unfold Addr.add; split <;> simp_all
      rw [this]
      exact hc j u hu
  have key : ∃ v' w', (Builtin.append_ #[t, t] ty #[v, .slice A m c]).run P w = .ok v' w' ∧ w'.ownsRow base e size v' (n + m) (xs ++ news) ∧ w.grownBy w' v.ownBlock ∧ (v'.ownBlock = v.ownBlock ∨ v'.ownBlock = some w.heap.size) := by
    rcases A with _ | ad
    · have hm : m = 0 := by
        rcases Nat.eq_zero_or_pos m with h0 | h0
        · exact h0
        · obtain ⟨b, off, h, _⟩ := hr.2 h0
          cases h
      subst hm
      have hn : news = [] := List.eq_nil_of_length_eq_zero (by simpa using hr.1)
      subst hn
      exact ⟨v, w, run_append_of_nil w base t ty e i size T.ht hi v n xs hown c, by simpa using hown, ⟨rfl, rfl, rfl, Nat.le_refl _, fun _ _ _ => rfl⟩, .inl rfl⟩
    · obtain ⟨v', w', hrun, h2, h3, _, h5⟩ := run_append_own_at (P := P) w base t ty e i z size bytes T.ht hi hz hsize hby hzs T.pos v n xs hown ad m c news hr.1 (hcells ad rfl) h1 hml hbytes hbase
      exact ⟨v', w', hrun, h2, h3, h5⟩
  obtain ⟨v', w', hrun, h2, h3, h4⟩ := key
  obtain ⟨A', c', rfl, _⟩ := ownsRow_shape h2
  exact ⟨A', c', w', hrun, h2, h3, h4⟩

theorem wp_app {o : Oper} {a : Act} {K : Act → World → Prop} {Q : Exit → Act → World → Prop} (s x : Operand) {t e size bytes : Nat} (T : SliceTy P t e size bytes)
    (ho : o.op = .call { callee := .builtin .append, args := #[s, x], argTypes := #[t, t] })
    (base : Nat) (v : Value) (n : Nat) (xs : List Value) (hs : a.eval s = v) (hown : w.ownsRow base e size v n xs)
    (B : Nat) (A : Option Addr) (m c : Nat) (news : List Value) (hx : a.eval x = .slice A m c) (hr : Reads w B size A m news) (h1 : ∀ u ∈ news, u.oneCell' = true)
    (h63 : n + m ≤ 1073741824) (hb : bytes ≤ 131072) (hbase : base ≤ w.heap.size)
    (h : ∀ A' c' w', w'.ownsRow base e size (.slice A' (n + m) c') (n + m) (xs ++ news) → w.grownBy w' v.ownBlock →
      (Value.ownBlock (.slice A' (n + m) c') = v.ownBlock ∨ Value.ownBlock (.slice A' (n + m) c') = some w.heap.size) → K (a.put o.dst (.slice A' (n + m) c')) w') : o.wp P a w K Q := by
  obtain ⟨A', c', w', hrun, h2, h3, h4⟩ := run_app (P := P) w T o.type base v n xs hown B A m c news hr h1 h63 hb hbase
  unfold Oper.wp execOp
  simp only [ho, resolve, invoke, builtin, Sem.run_bind, Sem.run_pure, Result.andThen_ok, List.map_toArray, List.map_cons, List.map_nil, hs, hx, hrun]
  exact h A' c' w' h2 h3 h4

theorem wpList_app {ops : Array Oper} {rest : List Oper} {o : Oper} {a : Act} {Q : Exit → Act → World → Prop} (hgd : o.guard = none) (s x : Operand) {t e size bytes : Nat} (T : SliceTy P t e size bytes)
    (ho : o.op = .call { callee := .builtin .append, args := #[s, x], argTypes := #[t, t] })
    (base : Nat) (v : Value) (n : Nat) (xs : List Value) (hs : a.eval s = v) (hown : w.ownsRow base e size v n xs)
    (B : Nat) (A : Option Addr) (m c : Nat) (news : List Value) (hx : a.eval x = .slice A m c) (hr : Reads w B size A m news) (h1 : ∀ u ∈ news, u.oneCell' = true)
    (h63 : n + m ≤ 1073741824) (hb : bytes ≤ 131072) (hbase : base ≤ w.heap.size)
    (h : ∀ A' c' w', w'.ownsRow base e size (.slice A' (n + m) c') (n + m) (xs ++ news) → w.grownBy w' v.ownBlock →
      (Value.ownBlock (.slice A' (n + m) c') = v.ownBlock ∨ Value.ownBlock (.slice A' (n + m) c') = some w.heap.size) → wpList P ops Q rest (a.put o.dst (.slice A' (n + m) c')) w') : wpList P ops Q (o :: rest) a w :=
  wpList_plain hgd fun _ hK => wp_app w s x T ho base v n xs hs hown B A m c news hx hr h1 h63 hb hbase fun A' c' w' h2 h3 h4 => hK _ _ (h A' c' w' h2 h3 h4)
end

/-- An append whose source is the literal that was laid just ahead of it. -/
theorem wpList_app_lit {P : Program} (w : World) {ops : Array Oper} {rest : List Oper} {o : Oper} {a : Act} {Q : Exit → Act → World → Prop} (hgd : o.guard = none) (s x : Operand) {t e size bytes : Nat} (T : SliceTy P t e size bytes)
    (ho : o.op = .call { callee := .builtin .append, args := #[s, x], argTypes := #[t, t] })
    (base : Nat) (v : Value) (n : Nat) (xs : List Value) (hs : a.eval s = v) (hown : w.ownsRow base e size v n xs)
    (m c : Nat) (news : Array Value) (hx : a.eval x = .slice (some ⟨w.heap.size, 0, none⟩) m c) (hm : news.size = m * size) (h1 : ∀ u ∈ news.toList, u.oneCell' = true)
    (h63 : n + m ≤ 1073741824) (hb : bytes ≤ 131072) (hbase : base ≤ w.heap.size)
    (h : ∀ A' c' w', w'.ownsRow base e size (.slice A' (n + m) c') (n + m) (xs ++ news.toList) → (w.alloc (.cells news e)).grownBy w' v.ownBlock →
      (Value.ownBlock (.slice A' (n + m) c') = v.ownBlock ∨ Value.ownBlock (.slice A' (n + m) c') = some (w.heap.size + 1)) → wpList P ops Q rest (a.put o.dst (.slice A' (n + m) c')) w') : wpList P ops Q (o :: rest) a (w.alloc (.cells news e)) :=
  wpList_app _ hgd s x T ho base v n xs hs (hown.alloc _) (w.heap.size + 1) _ m c news.toList hx (Reads.of_blk (Blk.new w e news) hm) h1 h63 hb (by simp; omega) (fun A' c' w' h2 h3 h4 => h A' c' w' h2 h3 (by simpa using h4))

/-- An owned row stays owned while a cell of another block is written. -/
theorem ownsRow_setCell_other {w : World} {base e size n : Nat} {v : Value} {xs : List Value} (h : w.ownsRow base e size v n xs) {p : Addr} (hp : v.ownBlock ≠ some p.block) (u : Value) : (w.setCell p u).ownsRow base e size v n xs := by
  refine ⟨h.1, ?_⟩
  rcases h.2 with hn | ⟨g, cap, cur, rfl, hbg, hgg, rest⟩
  · exact .inl hn
  · exact .inr ⟨g, cap, cur, rfl, hbg, (Below.heap_setCell w p u g (fun e => hp (by simp [Value.ownBlock, e]))).trans hgg, rest⟩
/-- A block of another element type is not the row's own. -/
theorem Blk.ne_own {w : World} {g t : Nat} {cs : Array Value} {base e size n : Nat} {v : Value} {xs : List Value} (hb : Blk w g t cs) (h : w.ownsRow base e size v n xs) (hne : e ≠ t) : some g ≠ v.ownBlock := by
  intro he
  rcases h.2 with ⟨rfl, _⟩ | ⟨g', cap, cur, rfl, _, hgg, _⟩
  · cases he
  · have he' : g = g' := by simpa [Value.ownBlock] using he
    subst he'
    unfold Blk at hb
    rw [hgg] at hb
    injection hb with hb
    injection hb with _ ht
    exact hne ht
/-- string(b) of an owned row of bytes. -/
theorem run_convert_own {P : Program} {w : World} {src e dst : TypeId} (hs : P.underlying src = some (.slice e)) (he : P.underlying e = some (.int .u8)) (hd : P.underlying dst = some .string) {base n : Nat} {v : Value} {bs : List Int}
    (h : w.ownsRow base e 1 v n (bs.map (Value.int .u8))) : (convert src dst v).run P w = .ok (.string (strOfNums bs)) w := by
  have hl : bs.length = n := by simpa using h.1
  rcases h.2 with ⟨rfl, rfl⟩ | ⟨g, cap, cur, rfl, _, hgg, _⟩
  · have : bs = [] := List.eq_nil_of_length_eq_zero hl
    subst this
    rw [run_convert_bytes_nil w src e hs he 0 0 dst hd]
    rfl
  · refine run_convert_bytes_arg w src e hs he g 0 n cap bs hl (fun i hi => ?_) dst hd
    have hx := h.cells (g := g) rfl i (.int .u8 (bs.getD i 0)) (by
      rw [List.getElem?_map, List.getElem?_eq_getElem (by omega)]
      simp [List.getD, List.getElem?_eq_getElem (show i < bs.length by omega)])
    have : (⟨g, 0, none⟩ : Addr).add i = ⟨g, 0 + i, none⟩ := by unfold Addr.add; split <;> simp_all
    rw [← this]
    exact hx
/-- A string's bytes as numbers. -/
def bl (s : ByteArray) : List Int := s.data.toList.map fun b => (b.toNat : Int)
theorem bl_length (s : ByteArray) : (bl s).length = s.size := by
  unfold bl
  rw [List.length_map, Array.length_toList]
  rfl
theorem bl_range (s : ByteArray) : ∀ x ∈ bl s, 0 ≤ x ∧ x < 256 := by
  intro x hx
  obtain ⟨b, _, rfl⟩ := List.mem_map.1 hx
  have := b.toNat_lt
  omega
theorem bl_inj {s t : ByteArray} (h : bl s = bl t) : s = t := by
  apply WideShapes.bytes_inj
  have hf : ∀ {a b : UInt8}, ((a.toNat : Nat) : Int) = (b.toNat : Int) → a = b := fun h => UInt8.toNat_inj.1 (by omega)
  generalize hs : s.data.toList = x at *
  generalize ht : t.data.toList = y at *
  unfold bl at h
  rw [hs, ht] at h
  clear hs ht
  induction x generalizing y with
  | nil => cases y with
    | nil => rfl
    | cons b y => simp at h
  | cons a x ih => cases y with
    | nil => simp at h
    | cons b y =>
      simp only [List.map_cons, List.cons.injEq] at h
      rw [hf h.1, ih y h.2]
theorem bl_strOfNums {l : List Int} (h : ∀ x ∈ l, 0 ≤ x ∧ x < 256) : bl (strOfNums l) = l := by
  unfold bl
  rw [strOfNums_data, List.map_map]
  conv => rhs; rw [← List.map_id l]
  apply List.map_congr_left
  intro x hx
  have := h x hx
  simp only [Function.comp, UInt8.toNat_ofNat', id]
  omega
theorem bl_extract (s : ByteArray) (a b : Nat) : bl (s.extract a b) = ((bl s).take b).drop a := by
  have h : (s.extract a b).data.toList = (s.data.toList.take b).drop a := by
    rw [ByteArray.data_extract, Array.toList_extract, List.extract_eq_take_drop, List.drop_take]
  unfold bl
  rw [h, ← List.map_take, ← List.map_drop]
theorem bl_append (s t : ByteArray) : bl (s ++ t) = bl s ++ bl t := by
  unfold bl
  rw [ByteArray.data_append, Array.toList_append, List.map_append]

/-- []byte(s): a new row that holds the bytes; nothing else turns. -/
theorem conv_bytes {P : Program} {w : World} {src dst e : TypeId} (s : ByteArray) (hs : P.underlying src = some .string) (hd : P.underlying dst = some (.slice e)) (he : P.underlying e = some (.int .u8)) :
    ∃ c w', (convert src dst (.string s)).run P w = .ok (.slice (some ⟨w.heap.size, 0, none⟩) s.size c) w' ∧ Reads w' (w.heap.size + 1) 1 (some ⟨w.heap.size, 0, none⟩) s.size ((bl s).map (Value.int .u8)) ∧ Fr w.heap.size [] w w' ∧ w'.heap.size = w.heap.size + 1 ∧ s.size ≤ c := by
  refine ⟨_, _, run_bytes_of_string w src dst e s hs hd he, ⟨by simp [bl_length], fun _ => ⟨_, 0, rfl, by omega, fun j u hu => ?_⟩⟩, ?_, by simp, grownCap_ge _ _ _ _⟩
  · have hj : j < (bl s).length := by
      rcases Nat.lt_or_ge j (bl s).length with h | h
      · exact h
      · rw [List.getElem?_eq_none (by simpa using h)] at hu; cases hu
    have hb : _ = _ := heap_alloc_new w.drew (.cells (bytesRow s (grownCap w s.size 0 e)) e ((bytesRow s (grownCap w s.size 0 e)).size, (bytesRow s (grownCap w s.size 0 e)).size + 1))
    refine (cell_of_row _ _ _ _ _ _ hb).trans ?_
    rw [bl_length] at hj
    rw [← hu, Nat.zero_add]
    simp [bytesRow, bl, Array.getElem?_append, hj, Function.comp_def]
  · exact ⟨rfl, rfl, rfl, by simp, fun k hk _ => Below.heap_alloc w.drew _ k hk⟩
theorem Fr.of_app {w w' : World} {o : Obj} {base : Nat} {v : Value} {e size n : Nat} {xs : List Value} (hg : (w.alloc o).grownBy w' v.ownBlock) (hown : w.ownsRow base e size v n xs) (hbase : base ≤ w.heap.size) : Fr base [] w w' :=
  (((Fr.refl base [] w).alloc hbase o).grown hg (by simp; omega) (fun k hk => .inl (hown.lt k hk).1))

/-- An array's element, whatever the index. -/
theorem run_index_arr {P : Program} {t e : TypeId} {len : Nat} {kd kd' : IntKind} {i : TypeInfo} (ht : P.underlying t = some (.array len e)) (he : P.underlying e = some (.int kd')) (hi : P.info? e = some i) (hs : i.size = 1)
    {cs : Array Value} {k : Nat} (hk : k < len) {v : Value} (hv : cs[k]? = some v) (w : World) : (Instr.index t (.agg cs) (.int kd (k : Int))).run P w = .ok v w := by
  simp [Instr.index, asIntOf, run_underlying ht, run_underlying he, sizeOf, typeInfo, hi, hs, part, isAgg, hv]
  omega
end Go.Fb
namespace Go.Proofs.YtfakgidimekikaaGreat
/-- One entry changed. -/
def updC {α : Type} (f : Nat → α) (i : Nat) (v : α) : Nat → α := fun j => if j = i then v else f j
/-- What an operation takes, and what it leaves. -/
def takesF (o : Int) : Int := if o = 5 ∨ o = 13 ∨ o = 14 ∨ o = 15 ∨ o = 9 ∨ o = 10 ∨ o = 11 then 1 else if o = 6 ∨ o = 7 ∨ o = 8 ∨ o = 17 ∨ o = 12 then 2 else 0
def leavesF (o : Int) : Int := if o = 11 ∨ o = 12 then 2 else if (1 ≤ o ∧ o ≤ 4) ∨ (6 ≤ o ∧ o ≤ 10) ∨ o = 17 then 1 else 0
/-- What the check knows of a program while it goes through it. -/
structure CS where
  D : Nat → Int
  E : Nat → Int
  mx : Int
  em : Int
  u0 : Bool
  u1 : Bool
/-- A place is come to with a depth and emits. -/
def comeF (n : Nat) (s : CS) (t : Nat) (d e : Int) : Option CS :=
  if 8 < d ∨ 4 < e then none
  else if t = n then some { s with mx := max s.mx d, em := max s.em e }
  else if s.D t ≠ -1 ∧ s.D t ≠ d then none
  else some { s with D := updC s.D t d, E := updC s.E t (max (s.E t) e), mx := max s.mx d, em := max s.em e }
def farF (n k : Nat) (a : Int) : Nat := min (k + 1 + a.toNat) n
def nextsF (n k : Nat) (i : Int × Int) : List Nat :=
  if i.1 = 0 then [] else if i.1 = 16 then [farF n k i.2] else if i.1 = 15 then [k + 1, farF n k i.2] else [k + 1]
def useF (s : CS) (i : Int × Int) : CS := if i.1 = 4 ∨ i.1 = 5 then (if i.2 = 0 then { s with u0 := true } else { s with u1 := true }) else s
def comesF (n : Nat) (d e : Int) : List Nat → CS → Option CS
  | [], s => some s
  | t :: l, s => match comeF n s t d e with
    | none => none
    | some s' => comesF n d e l s'
def emF (s : CS) (k : Nat) (i : Int × Int) : Int := if i.1 = 14 then s.E k + 1 else s.E k
def stepF (n : Nat) (p : Nat → Int × Int) (s : CS) (k : Nat) : Option CS :=
  if s.D k < takesF (p k).1 then none
  else comesF n (s.D k - takesF (p k).1 + leavesF (p k).1) (emF s k (p k)) (nextsF n k (p k)) (useF s (p k))
def startF (n : Nat) : CS := ⟨fun j => if n = 0 then -1 else if j = 0 then 0 else -1, fun _ => 0, 0, 0, false, false⟩
def checkF (n : Nat) (p : Nat → Int × Int) : Nat → Option CS
  | 0 => some (startF n)
  | k + 1 => match checkF n p k with
    | none => none
    | some s => if s.D k = -1 then some s else stepF n p s k
/-- An instruction that may be. -/
def rightI (i : Int × Int) : Prop := 0 ≤ i.1 ∧ i.1 ≤ 17 ∧ (if i.1 = 1 ∨ i.1 = 2 then -524288 ≤ i.2 ∧ i.2 ≤ 524287 else if i.1 = 4 ∨ i.1 = 5 then 0 ≤ i.2 ∧ i.2 ≤ 1 else if i.1 = 15 ∨ i.1 = 16 then 1 ≤ i.2 ∧ i.2 ≤ 24 else i.2 = 0)
/-- What holds of every state. -/
structure CInv (n : Nat) (s : CS) : Prop where
  d : ∀ k, -1 ≤ s.D k ∧ s.D k ≤ 8
  e : ∀ k, 0 ≤ s.E k ∧ s.E k ≤ 4
  mx : 0 ≤ s.mx ∧ s.mx ≤ 8
  em : 0 ≤ s.em ∧ s.em ≤ 4
  far : ∀ k, n ≤ k → s.D k = -1
theorem takesF_range (o : Int) : 0 ≤ takesF o ∧ takesF o ≤ 2 := by unfold takesF; split <;> (try split) <;> omega
theorem leavesF_range (o : Int) : 0 ≤ leavesF o ∧ leavesF o ≤ 2 := by unfold leavesF; split <;> (try split) <;> omega
theorem CInv.start (n : Nat) : CInv n (startF n) := by
  refine ⟨fun k => ?_, fun k => ⟨Int.le_refl _, by show (0 : Int) ≤ 4; decide⟩, ⟨Int.le_refl _, by show (0 : Int) ≤ 8; decide⟩, ⟨Int.le_refl _, by show (0 : Int) ≤ 4; decide⟩, fun k hk => ?_⟩
  · simp only [startF]; split
    · omega
    · split <;> omega
  · simp only [startF]; split
    · rfl
    · rw [if_neg (by omega)]
theorem CInv.use {n : Nat} {s : CS} (I : CInv n s) (i : Int × Int) : CInv n (useF s i) := by
  unfold useF; split
  · split <;> exact ⟨I.d, I.e, I.mx, I.em, I.far⟩
  · exact I
theorem CInv.come {n : Nat} {s s' : CS} (I : CInv n s) {t : Nat} {d e : Int} (ht : t ≤ n) (hd : 0 ≤ d) (he : 0 ≤ e) (h : comeF n s t d e = some s') : CInv n s' := by
  unfold comeF at h
  have a := I.mx
  have b := I.em
  split at h
  · cases h
  · rename_i h1
    split at h
    · injection h with h; subst h
      exact ⟨I.d, I.e, by show 0 ≤ max _ _ ∧ max _ _ ≤ 8; omega, by show 0 ≤ max _ _ ∧ max _ _ ≤ 4; omega, I.far⟩
    · rename_i h2
      split at h
      · cases h
      · injection h with h; subst h
        refine ⟨fun k => ?_, fun k => ?_, by show 0 ≤ max _ _ ∧ max _ _ ≤ 8; omega, by show 0 ≤ max _ _ ∧ max _ _ ≤ 4; omega, fun k hk => ?_⟩
        · have := I.d k
          simp only [updC]; split <;> omega
        · have := I.e k
          have := I.e t
          simp only [updC]; split <;> omega
        · have := I.far k hk
          simp only [updC]; rw [if_neg (by omega)]; exact this
theorem CInv.comes {n : Nat} {d e : Int} (hd : 0 ≤ d) (he : 0 ≤ e) : ∀ (l : List Nat) {s s' : CS}, (∀ t ∈ l, t ≤ n) → CInv n s → comesF n d e l s = some s' → CInv n s'
  | [], s, s', _, I, h => by injection h with h; subst h; exact I
  | t :: l, s, s', hl, I, h => by
    unfold comesF at h
    split at h
    · cases h
    · rename_i s1 h1
      exact CInv.comes hd he l (fun t ht => hl t (by simp [ht])) (I.come (hl t (by simp)) hd he h1) h
theorem nextsF_le {n k : Nat} (hk : k < n) (i : Int × Int) : ∀ t ∈ nextsF n k i, t ≤ n := by
  intro t ht
  unfold nextsF farF at ht
  split at ht
  · cases ht
  · split at ht
    · simp at ht; omega
    · split at ht <;> simp at ht <;> omega
theorem emF_range {n : Nat} {s : CS} (I : CInv n s) (k : Nat) (i : Int × Int) : 0 ≤ emF s k i ∧ emF s k i ≤ 5 := by
  have := I.e k
  unfold emF; split <;> omega
theorem CInv.step {n : Nat} {s s' : CS} (I : CInv n s) {p : Nat → Int × Int} {k : Nat} (hk : k < n) (h : stepF n p s k = some s') : CInv n s' := by
  unfold stepF at h
  split at h
  · cases h
  · have := leavesF_range (p k).1
    exact CInv.comes (by omega) (emF_range I k (p k)).1 _ (nextsF_le hk _) (I.use _) h
theorem checkF_inv {n : Nat} {p : Nat → Int × Int} : ∀ {m : Nat} {s : CS}, m ≤ n → checkF n p m = some s → CInv n s
  | 0, s, _, h => by injection h with h; subst h; exact CInv.start n
  | m + 1, s, hm, h => by
    unfold checkF at h
    split at h
    · cases h
    · rename_i s1 h1
      have I := checkF_inv (by omega) h1
      split at h
      · injection h with h; subst h; exact I
      · exact I.step (by omega) h
/-- What was come to stays so. -/
theorem come_kept {n : Nat} {s s' : CS} {t : Nat} {d e : Int} (hd : 0 ≤ d) (h : comeF n s t d e = some s') (x : Nat) (hx : s'.D x = -1) : s.D x = -1 := by
  unfold comeF at h
  split at h
  · cases h
  · split at h
    · injection h with h; subst h; exact hx
    · split at h
      · cases h
      · injection h with h; subst h
        simp only [updC] at hx
        split at hx
        · omega
        · exact hx
theorem comes_kept {n : Nat} {d e : Int} (hd : 0 ≤ d) (x : Nat) : ∀ (l : List Nat) {s s' : CS}, comesF n d e l s = some s' → s'.D x = -1 → s.D x = -1
  | [], s, s', h, hx => by injection h with h; subst h; exact hx
  | t :: l, s, s', h, hx => by
    unfold comesF at h
    split at h
    · cases h
    · rename_i s1 h1
      exact come_kept hd h1 x (comes_kept hd x l h hx)
theorem use_D (s : CS) (i : Int × Int) : (useF s i).D = s.D := by unfold useF; split; (split <;> rfl); rfl
theorem step_kept {n : Nat} {p : Nat → Int × Int} {s s' : CS} {k : Nat} (h : stepF n p s k = some s') (x : Nat) (hx : s'.D x = -1) : s.D x = -1 := by
  unfold stepF at h
  split at h
  · cases h
  · have := leavesF_range (p k).1
    rw [← use_D s (p k)]
    exact comes_kept (by omega) x _ h hx
/-- An instruction that isn't come to may be any other one. -/
theorem check_dead {n k : Nat} {p q : Nat → Int × Int} (hpq : ∀ j, j ≠ k → p j = q j) : ∀ {m : Nat} {s : CS}, m ≤ n → checkF n p m = some s → s.D k = -1 → checkF n q m = some s
  | 0, s, _, h, _ => h
  | m + 1, s, hm, h, hk => by
    unfold checkF at h ⊢
    split at h
    · cases h
    · rename_i s1 h1
      have I := checkF_inv (by omega) h1
      split at h
      · rename_i h2
        injection h with h; subst h
        rw [check_dead hpq (by omega) h1 hk]
        simp only [if_pos h2]
      · rename_i h2
        have h3 := I.d m
        have hk1 := step_kept h k hk
        rw [check_dead hpq (by omega) h1 hk1]
        simp only [if_neg h2]
        have hne : m ≠ k := by rintro rfl; exact h2 hk1
        unfold stepF at h ⊢
        rw [← hpq m hne]
        exact h
end Go.Proofs.YtfakgidimekikaaGreat
namespace Go.Proofs.YtfakgidimekikaaGreat
open Go.RowKit Go.Fb
/-- The bounds of an operation's number. -/
def boF (o : Int) : Int := if o = 1 ∨ o = 2 then -524288 else if o = 4 ∨ o = 5 then 0 else if o = 15 ∨ o = 16 then 1 else 0
def boT (o : Int) : Int := if o = 1 ∨ o = 2 then 524287 else if o = 4 ∨ o = 5 then 1 else if o = 15 ∨ o = 16 then 24 else 0
def boB (o : Int) : Bool := decide (o = 1 ∨ o = 2 ∨ o = 4 ∨ o = 5 ∨ o = 15 ∨ o = 16)
theorem bo_other {o : Int} (h : ¬ (o = 1 ∨ o = 2 ∨ o = 4 ∨ o = 5 ∨ o = 15 ∨ o = 16)) : boF o = 0 ∧ boT o = 0 ∧ boB o = false := by
  refine ⟨?_, ?_, ?_⟩
  · unfold boF; rw [if_neg (by omega), if_neg (by omega), if_neg (by omega)]
  · unfold boT; rw [if_neg (by omega), if_neg (by omega), if_neg (by omega)]
  · unfold boB; exact decide_eq_false h
theorem bounds_any (o : Int) (w : World) : Calls Tryz.prog 202 #[.int .i64 o] w fun e w' => e = .returned (.tuple #[.int .i64 (boF o), .int .i64 (boT o), .bool (boB o)]) ∧ w = w' := by
  by_cases h : o = 1 ∨ o = 2 ∨ o = 4 ∨ o = 5 ∨ o = 15 ∨ o = 16
  · rcases h with rfl | rfl | rfl | rfl | rfl | rfl
    · show Calls _ _ _ _ fun e w' => e = .returned (.tuple #[.int .i64 (-524288), .int .i64 524287, .bool true]) ∧ w = w'
      go_enter Tryz.func202, Tryz.ntmps202
      go_wp2_with fail
      go_ret3
      exact ⟨rfl, rfl⟩
    · show Calls _ _ _ _ fun e w' => e = .returned (.tuple #[.int .i64 (-524288), .int .i64 524287, .bool true]) ∧ w = w'
      go_enter Tryz.func202, Tryz.ntmps202
      go_wp2_with fail
      go_ret3
      exact ⟨rfl, rfl⟩
    · show Calls _ _ _ _ fun e w' => e = .returned (.tuple #[.int .i64 0, .int .i64 1, .bool true]) ∧ w = w'
      go_enter Tryz.func202, Tryz.ntmps202
      go_wp2_with fail
      go_ret3
      exact ⟨rfl, rfl⟩
    · show Calls _ _ _ _ fun e w' => e = .returned (.tuple #[.int .i64 0, .int .i64 1, .bool true]) ∧ w = w'
      go_enter Tryz.func202, Tryz.ntmps202
      go_wp2_with fail
      go_ret3
      exact ⟨rfl, rfl⟩
    · show Calls _ _ _ _ fun e w' => e = .returned (.tuple #[.int .i64 1, .int .i64 24, .bool true]) ∧ w = w'
      go_enter Tryz.func202, Tryz.ntmps202
      go_wp2_with fail
      go_ret3
      exact ⟨rfl, rfl⟩
    · show Calls _ _ _ _ fun e w' => e = .returned (.tuple #[.int .i64 1, .int .i64 24, .bool true]) ∧ w = w'
      go_enter Tryz.func202, Tryz.ntmps202
      go_wp2_with fail
      go_ret3
      exact ⟨rfl, rfl⟩
  · obtain ⟨e1, e2, e3⟩ := bo_other h
    rw [e1, e2, e3]
    clear e1 e2 e3
    have h1 : (o == 1) = false := by simp; omega
    have h2 : (o == 2) = false := by simp; omega
    have h4 : (o == 4) = false := by simp; omega
    have h5 : (o == 5) = false := by simp; omega
    have h15 : (o == 15) = false := by simp; omega
    have h16 : (o == 16) = false := by simp; omega
    clear h
    go_enter Tryz.func202, Tryz.ntmps202
    go_wp2_with fail
    go_ret3
    exact ⟨rfl, rfl⟩
/-- May an instruction be? -/
def rightB (i : Int × Int) : Bool := decide (0 ≤ i.1 ∧ i.1 < 18 ∧ boF i.1 ≤ i.2 ∧ i.2 ≤ boT i.1)
set_option maxRecDepth 100000 in
set_option maxHeartbeats 1000000 in
theorem cright_any (i : Int × Int) (w : World) : Calls Tryz.prog 194 #[.agg #[.int .i64 i.1, .int .i64 i.2]] w fun e w' => e = .returned (.bool (rightB i)) ∧ Fr w.heap.size [] w w' := by
  obtain ⟨o, a⟩ := i
  obtain ⟨v, hv⟩ : ∃ v, v = rightB (o, a) := ⟨_, rfl⟩
  rw [← hv]
  unfold rightB at hv
  have HB := Lib.hid (bounds_any o)
  simp only at hv ⊢
  generalize boF o = f at *
  generalize boT o = t at *
  generalize boB o = b at *
  by_cases c1 : o < 0
  · obtain rfl : v = false := by rw [hv]; exact decide_eq_false (by omega)
    clear hv
    go_enter Tryz.func194, Tryz.ntmps194
    go_wp2_with fail
    refine (HB.out _).mono ?_
    rintro e w' ⟨rfl, rfl⟩
    go_wp2_with fail
    go_ret
    exact ⟨rfl, (Fr.refl _ _ _).alloc (Nat.le_refl _) _⟩
  by_cases c2 : o < 18
  case neg =>
    obtain rfl : v = false := by rw [hv]; exact decide_eq_false (by omega)
    clear hv
    go_enter Tryz.func194, Tryz.ntmps194
    go_wp2_with fail
    refine (HB.out _).mono ?_
    rintro e w' ⟨rfl, rfl⟩
    go_wp2_with fail
    go_ret
    exact ⟨rfl, (Fr.refl _ _ _).alloc (Nat.le_refl _) _⟩
  by_cases c3 : a < f
  · obtain rfl : v = false := by rw [hv]; exact decide_eq_false (by omega)
    clear hv
    go_enter Tryz.func194, Tryz.ntmps194
    go_wp2_with fail
    refine (HB.out _).mono ?_
    rintro e w' ⟨rfl, rfl⟩
    go_wp2_with fail
    go_ret
    exact ⟨rfl, (Fr.refl _ _ _).alloc (Nat.le_refl _) _⟩
  by_cases c4 : t < a
  · obtain rfl : v = false := by rw [hv]; exact decide_eq_false (by omega)
    clear hv
    have hd : decide (a ≤ t) = false := decide_eq_false (by omega)
    go_enter Tryz.func194, Tryz.ntmps194
    go_wp2_with fail
    refine (HB.out _).mono ?_
    rintro e w' ⟨rfl, rfl⟩
    go_wp2_with fail
    go_ret
    exact ⟨rfl, (Fr.refl _ _ _).alloc (Nat.le_refl _) _⟩
  · obtain rfl : v = true := by rw [hv]; exact decide_eq_true (by omega)
    clear hv
    go_enter Tryz.func194, Tryz.ntmps194
    go_wp2_with fail
    refine (HB.out _).mono ?_
    rintro e w' ⟨rfl, rfl⟩
    go_wp2_with fail
    go_ret
    exact ⟨rfl, (Fr.refl _ _ _).alloc (Nat.le_refl _) _⟩
/-- The cells of a program. -/
def insC (x : Int × Int) : List Value := [.int .i64 x.1, .int .i64 x.2]
def cellsI (l : List (Int × Int)) : List Value := l.flatMap insC
theorem cellsI_length (l : List (Int × Int)) : (cellsI l).length = l.length * 2 := by
  unfold cellsI
  induction l with
  | nil => rfl
  | cons x l ih => rw [List.flatMap_cons, List.length_append, ih]; simp [insC]; omega
theorem cellsI_get : ∀ {l : List (Int × Int)} {k : Nat} {x : Int × Int}, l[k]? = some x → (cellsI l)[k * 2]? = some (.int .i64 x.1) ∧ (cellsI l)[k * 2 + 1]? = some (.int .i64 x.2)
  | [], k, x, h => by simp at h
  | y :: l, 0, x, h => by
    simp at h
    subst h
    exact ⟨rfl, rfl⟩
  | y :: l, k + 1, x, h => by
    have ih := cellsI_get (l := l) (k := k) (x := x) (by simpa using h)
    have e : cellsI (y :: l) = .int .i64 y.1 :: .int .i64 y.2 :: cellsI l := rfl
    rw [e, show (k + 1) * 2 = k * 2 + 1 + 1 by omega]
    exact ih
theorem reads_ins {w : World} {B : Nat} {A : Option Addr} {l : List (Int × Int)} (h : Reads w B 2 A l.length (cellsI l)) {k : Nat} {x : Int × Int} (hx : l[k]? = some x) :
    ∃ b off, A = some ⟨b, off, none⟩ ∧ b < B ∧ w.cell? ⟨b, off + k * 2, none⟩ = some (.int .i64 x.1) ∧ w.cell? ⟨b, off + k * 2 + 1, none⟩ = some (.int .i64 x.2) := by
  have hk : k < l.length := by
    rcases Nat.lt_or_ge k l.length with h' | h'
    · exact h'
    · rw [List.getElem?_eq_none h'] at hx; cases hx
  obtain ⟨b, off, e, hb, hc⟩ := h.2 (by omega)
  obtain ⟨h1, h2⟩ := cellsI_get hx
  exact ⟨b, off, e, hb, hc _ _ h1, by rw [Nat.add_assoc]; exact hc _ _ h2⟩
/-- May a program's instructions be? -/
def fitsB (l : List (Int × Int)) : Bool := decide (l.length ≤ 24) && l.all rightB
theorem wrong_any (i : Int × Int) (w : World) : Calls Tryz.prog 193 #[.agg #[.int .i64 i.1, .int .i64 i.2]] w fun e w' => e = .returned (.bool (!rightB i)) ∧ Fr w.heap.size [] w w' := by
  have H := Lib.hid (cright_any i)
  generalize rightB i = v at *
  go_enter Tryz.func193, Tryz.ntmps193
  go_wp2_with fail
  refine (H.out _).mono ?_
  rintro e w1 ⟨rfl, f1⟩
  have F1 := Lib.hid (((Fr.refl _ _ _).alloc (Nat.le_refl _) _).trans (f1.mono (by simp) (by simp)) : Fr w.heap.size [] w w1)
  clear f1
  go_wp2_with fail
  go_ret
  exact ⟨rfl, F1.out⟩
def SomeIdx (b : Bool) (w : World) (e : Ending) (w' : World) : Prop := ∃ i : Int, e = .returned (.int .i64 i) ∧ (decide (0 ≤ i) = b) ∧ Fr w.heap.size [] w w'
theorem all_take_succ {f : Int × Int → Bool} {l : List (Int × Int)} {k : Nat} {x : Int × Int} (h : l[k]? = some x) : (l.take (k + 1)).all f = ((l.take k).all f && f x) := by
  rw [List.take_add_one, h, List.all_append]
  simp
theorem all_bad {f : Int × Int → Bool} {l : List (Int × Int)} {k : Nat} {x : Int × Int} (h : l[k]? = some x) (hf : f x = false) : l.all f = false := by
  rw [List.all_eq_false]
  exact ⟨x, List.mem_of_getElem? h, by simp [hf]⟩
set_option maxRecDepth 100000 in
theorem iindex_any (A : Option Addr) (c B : Nat) (l : List (Int × Int)) (w : World) (hr : Reads w B 2 A l.length (cellsI l)) (hB : B ≤ w.heap.size) (hn : l.length ≤ maxLen) :
    Calls Tryz.prog 203 #[.slice A l.length c, .func (.func 193) #[] #[]] w (SomeIdx (!l.all rightB) w) := by
  unfold maxLen at hn
  have HR := Lib.hid hr
  obtain ⟨n, hnl⟩ : ∃ n, n = l.length := ⟨_, rfl⟩
  rw [← hnl] at hn ⊢
  have HN := Lib.hid hnl
  clear hr hnl
  go_enter Tryz.func203, Tryz.ntmps203
  go_wp2_with fail
  go_loopw [8] (fun i wr => ∃ k : Nat, k ≤ n ∧ i = .int .i64 k ∧ RowKit.Hid ((l.take k).all rightB = true) ∧ RowKit.Hid (Fr w.heap.size [] w wr)) (fun i _ => n - (intOf i).toNat)
  case atStart => exact ⟨0, Nat.zero_le _, rfl, rfl, Fr.refl _ _ _⟩
  case round =>
    obtain ⟨k, hk, rfl, HA, HF⟩ := hrel
    by_cases hlt : k < n
    · obtain ⟨x, hx⟩ : ∃ x, l[k]? = some x := ⟨_, List.getElem?_eq_getElem (by rw [← HN.out]; exact hlt)⟩
      obtain ⟨b, off, rfl, hb, c1, c2⟩ := reads_ins (HR.out.fr HF.out hB (by simp)) hx
      have hki : (k : Int) < (n : Int) := by omega
      have HX := Lib.hid hx
      clear hx
      go_wp2_with fail
      refine (wrong_any x _).mono ?_
      rintro e w1 ⟨rfl, f1⟩
      have F1 := Lib.hid (HF.out.trans (f1.mono (B' := w.heap.size) (L' := []) HF.out.size (by simp)))
      clear f1
      cases hrx : rightB x
      case false =>
        have HV := Lib.hid (all_bad HX.out hrx)
        clear hrx
        go_wp2_with fail
        go_ret
        exact ⟨k, rfl, by rw [HV.out]; simp, F1.out⟩
      case true =>
        have HV := Lib.hid hrx
        clear hrx
        go_wp2_with fail
        go_roundw
        case rel => exact ⟨k + 1, by omega, by go_num, (by show _ = _; rw [all_take_succ HX.out, HA.out, HV.out]; rfl), F1.out⟩
        case measure => simp [intOf]; omega
    · obtain rfl : n = k := by omega
      go_wp2_with fail
      go_ret
      refine ⟨-1, rfl, ?_, HF.out⟩
      have h := HA.out
      rw [List.take_of_length_le (by rw [HN.out]; exact Nat.le_refl _)] at h
      rw [h]; rfl
theorem icontains_any (A : Option Addr) (c B : Nat) (l : List (Int × Int)) (w : World) (hr : Reads w B 2 A l.length (cellsI l)) (hB : B ≤ w.heap.size) (hn : l.length ≤ maxLen) :
    Calls Tryz.prog 195 #[.slice A l.length c, .func (.func 193) #[] #[]] w fun e w' => e = .returned (.bool (!l.all rightB)) ∧ Fr w.heap.size [] w w' := by
  have H := Lib.hid (iindex_any A c B l w hr hB hn)
  clear hr hn hB
  go_enter Tryz.func195, Tryz.ntmps195
  go_wp2_with fail
  refine H.out.mono ?_
  rintro e w' ⟨i, rfl, hi, hf⟩
  have HI := Lib.hid hi
  have HF := Lib.hid hf
  clear hi hf
  go_wp2_with fail
  go_ret
  exact ⟨by rw [← HI.out]; rfl, HF.out⟩
theorem fits_any (A : Option Addr) (c B : Nat) (l : List (Int × Int)) (w : World) (hr : Reads w B 2 A l.length (cellsI l)) (hB : B ≤ w.heap.size) (hn : l.length ≤ maxLen) :
    Calls Tryz.prog 178 #[.slice A l.length c] w fun e w' => e = .returned (.bool (fitsB l)) ∧ Fr w.heap.size [] w w' := by
  have H := Lib.hid (icontains_any A c B l w hr hB hn)
  unfold maxLen at hn
  clear hr
  obtain ⟨v, hv⟩ : ∃ v, v = fitsB l := ⟨_, rfl⟩
  rw [← hv]
  unfold fitsB at hv
  obtain ⟨n, hnl⟩ : ∃ n, n = l.length := ⟨_, rfl⟩
  rw [← hnl] at hn hv H ⊢
  clear hnl
  by_cases h24 : n ≤ 24
  · rw [decide_eq_true h24, Bool.true_and] at hv
    rw [← hv] at H
    have HV := Lib.hid hv
    clear hv
    go_enter Tryz.func178, Tryz.ntmps178
    go_wp2_with fail
    refine H.out.mono ?_
    rintro e w' ⟨rfl, hf⟩
    have HF := Lib.hid hf
    clear hf
    go_wp2_with fail
    go_ret
    exact ⟨by simp, HF.out⟩
  · rw [decide_eq_false h24, Bool.false_and] at hv
    subst hv
    go_enter Tryz.func178, Tryz.ntmps178
    go_wp2_with fail
    go_ret
    exact ⟨rfl, Fr.refl _ _ _⟩
end Go.Proofs.YtfakgidimekikaaGreat
namespace Go.Proofs.YtfakgidimekikaaGreat
open Go.RowKit Go.Fb

/-- The cells of an array of eight ints; the array as a value. -/
abbrev C8 (r : Nat → Int) : Array Value := #[.int .i64 (r 0), .int .i64 (r 1), .int .i64 (r 2), .int .i64 (r 3), .int .i64 (r 4), .int .i64 (r 5), .int .i64 (r 6), .int .i64 (r 7)]
abbrev A8 (r : Nat → Int) : Value := .agg (C8 r)
theorem C8_get (r : Nat → Int) {k : Nat} (h : k < 8) : (C8 r)[k]? = some (.int .i64 (r k)) := by
  match k, h with
  | 0, _ | 1, _ | 2, _ | 3, _ | 4, _ | 5, _ | 6, _ | 7, _ => rfl
theorem C8_congr {r r' : Nat → Int} (h : ∀ k, k < 8 → r k = r' k) : C8 r = C8 r' := by
  simp only [C8, h 0 (by omega), h 1 (by omega), h 2 (by omega), h 3 (by omega), h 4 (by omega), h 5 (by omega), h 6 (by omega), h 7 (by omega)]
theorem C8_set (r : Nat → Int) {k : Nat} (h : k < 8) (v : Int) : (C8 r).setIfInBounds k (.int .i64 v) = C8 (fun j => if j = k then v else r j) := by
  match k, h with
  | 0, _ | 1, _ | 2, _ | 3, _ | 4, _ | 5, _ | 6, _ | 7, _ => rfl
/-- A block of eight ints after all its cells were written. -/
def set8 (w : World) (g : Nat) (E : Nat → Int) : World :=
  (((((((w.setCell ⟨g, 0, none⟩ (.int .i64 (E 0))).setCell ⟨g, 1, none⟩ (.int .i64 (E 1))).setCell ⟨g, 2, none⟩ (.int .i64 (E 2))).setCell ⟨g, 3, none⟩ (.int .i64 (E 3))).setCell ⟨g, 4, none⟩ (.int .i64 (E 4))).setCell ⟨g, 5, none⟩ (.int .i64 (E 5))).setCell ⟨g, 6, none⟩ (.int .i64 (E 6))).setCell ⟨g, 7, none⟩ (.int .i64 (E 7))
theorem blk_set1 {w : World} {g t : Nat} {r : Nat → Int} (h : Blk w g t (C8 r)) {k : Nat} (hk : k < 8) (v : Int) : Blk (w.setCell ⟨g, k, none⟩ (.int .i64 v)) g t (C8 fun j => if j = k then v else r j) := by
  rw [← C8_set r hk v]
  exact h.set_ k _
theorem blk_set8 {w : World} {g t : Nat} {r : Nat → Int} (h : Blk w g t (C8 r)) (E : Nat → Int) : Blk (set8 w g E) g t (C8 E) := by
  have h8 := blk_set1 (blk_set1 (blk_set1 (blk_set1 (blk_set1 (blk_set1 (blk_set1 (blk_set1 h (k := 0) (by omega) (E 0)) (k := 1) (by omega) (E 1)) (k := 2) (by omega) (E 2)) (k := 3) (by omega) (E 3)) (k := 4) (by omega) (E 4)) (k := 5) (by omega) (E 5)) (k := 6) (by omega) (E 6)) (k := 7) (by omega) (E 7)
  rw [C8_congr (r' := E)] at h8
  · exact h8
  · intro k hk
    match k, hk with
    | 0, _ | 1, _ | 2, _ | 3, _ | 4, _ | 5, _ | 6, _ | 7, _ => rfl
theorem fr_set8 {B g : Nat} {L : List Nat} {a w : World} (h : Fr B L a w) (hg : B ≤ g ∨ g ∈ L) (E : Nat → Int) : Fr B L a (set8 w g E) :=
  (((((((h.setCell (p := ⟨g, 0, none⟩) hg _).setCell (p := ⟨g, 1, none⟩) hg _).setCell (p := ⟨g, 2, none⟩) hg _).setCell (p := ⟨g, 3, none⟩) hg _).setCell (p := ⟨g, 4, none⟩) hg _).setCell (p := ⟨g, 5, none⟩) hg _).setCell (p := ⟨g, 6, none⟩) hg _).setCell (p := ⟨g, 7, none⟩) hg _
theorem intinfo : (Tryz.prog.info? 3).map (fun i => (i.zero, i.size, i.bytes)) = some (some (.int .i64 0), 1, 8) := by kernel_rfl
theorem index8 (r : Nat → Int) {k : Nat} (h : k < 8) (w : World) : (Instr.index 48 (A8 r) (.int .i64 (k : Int))).run Tryz.prog w = .ok (.int .i64 (r k)) w := by
  obtain ⟨i, hi, hz, hsz, hby⟩ := info_parts intinfo
  exact run_index_arr Tryz.underlying48 Tryz.underlying3 hi hsz h (C8_get r h) w

/-- A result that lies in a row of cells, and one in a slot. -/
theorem results_cell_row_tmp {P : Program} {fn : Func} {p q : Tmp} {ty : TypeId} (h : fn.results = #[.cell p ty, .tmp q]) (tmps : Array Value) (w : World) (g : Nat) (t : TypeId) (cs : Array Value) (fr : Nat × Nat) (d : TypeDesc)
    (hp : tmps.getD p undef = .pointer (some ⟨g, 0, none⟩)) (hg : w.heap[g]? = some (.cells cs t fr))
    (hu : P.underlying ty = some d) (hd : (match d with | .struct _ | .array _ _ => true | _ => false) = true) (hi : (P.info? ty).map (·.size) = some cs.size) :
    (results fn tmps).run P w = .ok (.tuple #[.agg cs, tmps.getD q undef]) w := by
  have hp' : tmps[p]?.getD undef = .pointer (some ⟨g, 0, none⟩) := by simpa using hp
  simp [results, h, hp', asAddr, run_loadVar_row w g t ty cs fr d hg hu hd hi]
end Go.Proofs.YtfakgidimekikaaGreat
namespace Go.Proofs.YtfakgidimekikaaGreat
open Go.RowKit Go.Fb

/-- Is a route right? -/
def inTo (p : Int) (r : Nat → Int) (n : Nat) : Bool := (List.range n).all fun k => decide (0 ≤ r k ∧ r k < p)
theorem inTo_succ (p : Int) (r : Nat → Int) (k : Nat) : inTo p r (k + 1) = (inTo p r k && decide (0 ≤ r k ∧ r k < p)) := by
  unfold inTo
  rw [List.range_succ, List.all_append]; simp
theorem inTo_bad {p : Int} {r : Nat → Int} {k n : Nat} (hk : k < n) (h : ¬ (0 ≤ r k ∧ r k < p)) : inTo p r n = false := by
  unfold inTo
  rw [List.all_eq_false]
  exact ⟨k, by simpa using hk, by simpa using h⟩
def right8 (p : Int) (r : Nat → Int) : Bool := decide (1 ≤ p ∧ p ≤ 3) && inTo p r 8

set_option maxRecDepth 100000 in
theorem right_any (p : Int) (r : Nat → Int) (w : World) : Calls Tryz.prog 98 #[.int .i64 p, A8 r] w fun e w' => e = .returned (.bool (right8 p r)) ∧ Fr w.heap.size [] w w' := by
  by_cases h1 : p < 1
  · have hv : right8 p r = false := by simp [right8]; omega
    rw [hv]
    clear hv
    go_enter Tryz.func98, Tryz.ntmps98
    go_wp2_with fail
    go_ret
    exact ⟨rfl, (Fr.refl _ _ _).alloc (Nat.le_refl _) _⟩
  by_cases h2 : 3 < p
  · have hv : right8 p r = false := by simp [right8]; omega
    rw [hv]
    clear hv
    go_enter Tryz.func98, Tryz.ntmps98
    go_wp2_with fail
    go_ret
    exact ⟨rfl, (Fr.refl _ _ _).alloc (Nat.le_refl _) _⟩
  have hv : right8 p r = inTo p r 8 := by
    have : decide (1 ≤ p ∧ p ≤ 3) = true := by simp; omega
    rw [right8, this, Bool.true_and]
  rw [hv]
  clear hv
  go_enter Tryz.func98, Tryz.ntmps98
  go_wp2_with fail
  go_loop [14] (fun i => ∃ k : Nat, k ≤ 8 ∧ i = .int .i64 k ∧ inTo p r k = true) (fun i => 8 - (intOf i).toNat)
  case atStart => exact ⟨0, by omega, rfl, rfl⟩
  case round =>
    obtain ⟨k, hk, rfl, hall⟩ := hrel
    by_cases hlt : k < 8
    · have hx := index8 r hlt
      have HA := Lib.hid hall
      clear hall
      have hnext : inTo p r (k + 1) = decide (0 ≤ r k ∧ r k < p) := by rw [inTo_succ, HA.out]; simp
      have HN := Lib.hid hnext
      clear hnext
      have hbad : ¬ (0 ≤ r k ∧ r k < p) → inTo p r 8 = false := by
        exact inTo_bad hlt
      have HB := Lib.hid hbad
      clear hbad
      by_cases c1 : r k < 0
      · go_wp2_with fail
        go_ret
        exact ⟨by rw [HB.out (by omega)]; rfl, (Fr.refl _ _ _).alloc (Nat.le_refl _) _⟩
      by_cases c2 : p ≤ r k
      · go_wp2_with fail
        go_ret
        exact ⟨by rw [HB.out (by omega)]; rfl, (Fr.refl _ _ _).alloc (Nat.le_refl _) _⟩
      · go_wp2_with fail
        go_round
        case rel => exact ⟨k + 1, by omega, by go_num, by rw [HN.out]; simp; omega⟩
        case measure => simp [intOf]; omega
    · obtain rfl : k = 8 := by omega
      have HA := Lib.hid hall
      clear hall
      go_wp2_with fail
      go_ret
      exact ⟨by rw [HA.out]; rfl, (Fr.refl _ _ _).alloc (Nat.le_refl _) _⟩

/-- The least and the greatest number of tasks. -/
def clampP (p : Int) : Int := if p < 1 then 1 else if 3 < p then 3 else p
def evenR (p : Int) (k : Nat) : Int := (k : Int) * clampP p / 8

theorem C8_zero : (C8 fun _ => 0) = #[.int .i64 0, .int .i64 0, .int .i64 0, .int .i64 0, .int .i64 0, .int .i64 0, .int .i64 0, .int .i64 0] := rfl

theorem group_any (k : Int) (w : World) : Calls Tryz.prog 126 #[.int .i64 k] w fun e w' => e = .returned (.int .i64 (k % 8)) ∧ w = w' := by
  have t1 : k = 8 * k.tdiv 8 + k.tmod 8 := (Int.mul_tdiv_add_tmod k 8).symm
  have t2 : -8 < k.tmod 8 ∧ k.tmod 8 < 8 := by
    rcases Int.le_total 0 k with h | h
    · rw [Int.tmod_eq_emod_of_nonneg h]; omega
    · have := Int.neg_tmod k 8
      have h2 : (-k).tmod 8 = (-k) % 8 := Int.tmod_eq_emod_of_nonneg (by omega)
      omega
  obtain ⟨t3, t4⟩ := t2
  have T := Lib.hid t1
  clear t1
  go_enter Tryz.func126, Tryz.ntmps126
  go_wp2_with fail
  go_ret
  have h := T.out
  have hv : (k.tmod 8 + 8) % 8 = k % 8 := by omega
  exact ⟨by rw [← hv]; rfl, rfl⟩
end Go.Proofs.YtfakgidimekikaaGreat
namespace Go.Proofs.YtfakgidimekikaaGreat
open Go.RowKit Go.Fb

theorem intsTy : SliceTy Tryz.prog 46 3 1 8 := SliceTy.mk' (z := .int .i64 0) Tryz.underlying46 (by kernel_rfl) rfl (by omega)
/-- A list of ints of the call's own is handed back; nothing that was there has turned. -/
def RetInts (w : World) (xs : List Int) (e : Ending) (w' : World) : Prop :=
  ∃ A c, e = .returned (.slice A xs.length c) ∧ w'.ownsRow w.heap.size 3 1 (.slice A xs.length c) xs.length (xs.map (Value.int .i64)) ∧ Fr w.heap.size [] w w'
/-- The groups of which something is so. -/
def someTo (p : Nat → Bool) (n : Nat) : List Int := ((List.range n).filter p).map fun k : Nat => (k : Int)
theorem someTo_succ (p : Nat → Bool) (k : Nat) : someTo p (k + 1) = someTo p k ++ if p k then [(k : Int)] else [] := by
  unfold someTo
  rw [List.range_succ, List.filter_append, List.map_append]
  cases h : p k <;> simp [h]
theorem someTo_length (p : Nat → Bool) (k : Nat) : (someTo p k).length ≤ k := by
  unfold someTo
  have := List.length_filter_le p (List.range k)
  simp at this ⊢
  omega

set_option maxRecDepth 100000 in
theorem task_any (r : Nat → Int) (k : Int) (w : World) : Calls Tryz.prog 99 #[A8 r, .int .i64 k] w fun e w' => e = .returned (.int .i64 (r (k % 8).toNat)) ∧ Fr w.heap.size [] w w' := by
  obtain ⟨m, hm⟩ := Int.eq_ofNat_of_zero_le (show 0 ≤ k % 8 by omega)
  have hm' : k % 8 = (m : Int) := hm
  have hm8 : m < 8 := by omega
  have hg := fun w => group_any k w
  rw [hm'] at hg ⊢
  rw [Int.toNat_natCast]
  have HG := Lib.hid hg
  have hc := (Blk.new w 48 (C8 r)).cell m
  rw [C8_get r hm8] at hc
  have hmi : (m : Int) < 8 := by omega
  clear hg hm hm'
  go_enter Tryz.func99, Tryz.ntmps99
  go_wp2_with (go_at_call 126; refine (HG.out _).mono ?_; rintro e w' ⟨rfl, rfl⟩)

  go_ret
  exact ⟨rfl, (Fr.refl _ _ _).alloc (Nat.le_refl _) _⟩
end Go.Proofs.YtfakgidimekikaaGreat
namespace Go.Proofs.YtfakgidimekikaaGreat
open Go.RowKit Go.Fb
structure Nd where
  id : Int
  kind : Int
  par : Int
  fr : List Int
  pg : List (Int × Int)
  rt : Nat → Int
/-- A node with the two slices that it holds. -/
abbrev Ndm := Nd × Value × Value
abbrev ndA (x : Nd) (sf sp : Value) : Array Value := #[.int .i64 x.id, .int .i64 x.kind, sf, sp, .int .i64 x.par, .int .i64 (x.rt 0), .int .i64 (x.rt 1), .int .i64 (x.rt 2), .int .i64 (x.rt 3), .int .i64 (x.rt 4), .int .i64 (x.rt 5), .int .i64 (x.rt 6), .int .i64 (x.rt 7)]
def ndL (m : Ndm) : List Value := (ndA m.1 m.2.1 m.2.2).toList
def cellsN (M : List Ndm) : List Value := M.flatMap ndL
theorem cellsN_length (M : List Ndm) : (cellsN M).length = M.length * 13 := by
  unfold cellsN
  induction M with
  | nil => rfl
  | cons x M ih => rw [List.flatMap_cons, List.length_append, ih]; simp [ndL]; omega
theorem cellsN_app (a b : List Ndm) : cellsN (a ++ b) = cellsN a ++ cellsN b := by simp [cellsN]
theorem cellsN_get : ∀ {M : List Ndm} {k : Nat} {m : Ndm}, M[k]? = some m → ∀ j, j < 13 → (cellsN M)[k * 13 + j]? = (ndL m)[j]?
  | [], k, x, h, _, _ => by simp at h
  | y :: l, 0, x, h, j, hj => by
    simp at h
    subst h
    rw [cellsN, List.flatMap_cons, Nat.zero_mul, Nat.zero_add, List.getElem?_append_left (by simp [ndL]; omega)]
  | y :: l, k + 1, x, h, j, hj => by
    rw [cellsN, List.flatMap_cons, List.getElem?_append_right (by simp [ndL]; omega)]
    have ih := cellsN_get (M := l) (k := k) (m := x) (by simpa using h) j hj
    have e : (k + 1) * 13 + j - (ndL y).length = k * 13 + j := by simp [ndL]; omega
    rw [e]
    exact ih
/-- What a node's two slices read. -/
structure NdIn (w : World) (B : Nat) (m : Ndm) : Prop where
  fr : ∃ A c, m.2.1 = .slice A m.1.fr.length c ∧ Reads w B 1 A m.1.fr.length (m.1.fr.map (Value.int .i64))
  pg : ∃ A c, m.2.2 = .slice A m.1.pg.length c ∧ Reads w B 2 A m.1.pg.length (cellsI m.1.pg)
theorem NdIn.frw {w w' : World} {B B' : Nat} {L : List Nat} {m : Ndm} (h : NdIn w B m) (hf : Fr B' L w w') (hB : B ≤ B') (hL : ∀ k ∈ L, B ≤ k) : NdIn w' B m := by
  obtain ⟨⟨A, c, h1, h2⟩, ⟨A', c', h3, h4⟩⟩ := h
  exact ⟨⟨A, c, h1, h2.fr hf hB hL⟩, ⟨A', c', h3, h4.fr hf hB hL⟩⟩
theorem NdIn.more {w : World} {B B' : Nat} {m : Ndm} (h : NdIn w B m) (hB : B ≤ B') : NdIn w B' m := by
  obtain ⟨⟨A, c, h1, h2⟩, ⟨A', c', h3, h4⟩⟩ := h
  exact ⟨⟨A, c, h1, h2.more hB⟩, ⟨A', c', h3, h4.more hB⟩⟩
/-- A list of nodes that a slice reads. -/
structure Nds (w : World) (B : Nat) (A : Option Addr) (n : Nat) (M : List Ndm) : Prop where
  num : n = M.length
  rd : Reads w B 13 A n (cellsN M)
  inn : ∀ m ∈ M, NdIn w B m
theorem Nds.frw {w w' : World} {B B' n : Nat} {A : Option Addr} {L : List Nat} {M : List Ndm} (h : Nds w B A n M) (hf : Fr B' L w w') (hB : B ≤ B') (hL : ∀ k ∈ L, B ≤ k) : Nds w' B A n M :=
  ⟨h.num, h.rd.fr hf hB hL, fun m hm => (h.inn m hm).frw hf hB hL⟩
theorem Nds.more {w : World} {B B' n : Nat} {A : Option Addr} {M : List Ndm} (h : Nds w B A n M) (hB : B ≤ B') : Nds w B' A n M :=
  ⟨h.num, h.rd.more hB, fun m hm => (h.inn m hm).more hB⟩
theorem Nds.get {w : World} {B n : Nat} {A : Option Addr} {M : List Ndm} (h : Nds w B A n M) {k : Nat} {m : Ndm} (hk : M[k]? = some m) :
    ∃ b off, A = some ⟨b, off, none⟩ ∧ b < B ∧ ∀ j u, (ndL m)[j]? = some u → w.cell? ⟨b, off + k * 13 + j, none⟩ = some u := by
  have hkn : k < n := by
    rw [h.num]
    rcases Nat.lt_or_ge k M.length with h | h
    · exact h
    · rw [List.getElem?_eq_none h] at hk; cases hk
  obtain ⟨b, off, e, hb, hc⟩ := h.rd.2 (by omega)
  refine ⟨b, off, e, hb, fun j u hu => ?_⟩
  have hj : j < 13 := by
    rcases Nat.lt_or_ge j 13 with h | h
    · exact h
    · rw [List.getElem?_eq_none (by simp [ndL]; omega)] at hu; cases hu
  rw [Nat.add_assoc]
  exact hc _ u (by rw [cellsN_get hk j hj]; exact hu)
theorem iowns_empty (w : World) : (w.alloc (.cells #[] 3)).ownsRow w.heap.size 3 1 (.slice (some ⟨w.heap.size, 0, none⟩) 0 0) 0 [] := by
  refine ⟨rfl, .inr ⟨w.heap.size, 0, #[], rfl, Nat.le_refl _, Blk.new _ _ _, ?_⟩⟩
  simp
theorem ints_nil (A : Option Addr) (n c : Nat) (w : World) : (binOp .eql 46 (.slice A n c) (.slice none 0 0)).run Tryz.prog w = .ok (.bool A.isNone) w := by
  simp only [binOp]
  simp [run_equal_slice_nil w _ _ A n c Tryz.underlying46]
theorem intC_one {l : List Int} : ∀ u ∈ l.map (Value.int .i64), u.oneCell' = true := by
  intro u hu
  obtain ⟨x, _, rfl⟩ := List.mem_map.1 hu
  rfl
set_option maxRecDepth 100000 in
theorem iclone_any (A : Option Addr) (n c B : Nat) (l : List Int) (w : World) (hl : n = l.length) (hn : n ≤ 1000000) (hr : Reads w B 1 A n (l.map (Value.int .i64))) (hB : B ≤ w.heap.size) :
    Calls Tryz.prog 110 #[.slice A n c] w fun e w' => ∃ A' c', e = .returned (.slice A' n c') ∧ w'.ownsRow w.heap.size 3 1 (.slice A' n c') n (l.map (Value.int .i64)) ∧ Fr w.heap.size [] w w' := by
  rcases A with _ | ad
  · have h0 : n = 0 := by
      rcases Nat.eq_zero_or_pos n with h | h
      · exact h
      · obtain ⟨b, off, e, _⟩ := hr.2 h
        cases e
    subst h0
    have hle : l = [] := List.eq_nil_of_length_eq_zero hl.symm
    subst hle
    have hq : ∀ w, (binOp .eql 46 (.slice none 0 c) (.slice none 0 0)).run Tryz.prog w = .ok (.bool true) w := ints_nil none 0 c
    clear hr hn hl
    go_enter Tryz.func110, Tryz.ntmps110
    go_wp2_with fail
    go_ret
    exact ⟨none, 0, rfl, World.ownsRow_nil _ _ _ _, Fr.refl _ _ _⟩
  · have ho := iowns_empty w
    have hf := (Fr.refl w.heap.size [] w).alloc (Nat.le_refl _) (.cells #[] 3)
    have hr1 := hr.fr hf hB (by simp)
    have hs : w.heap.size < (w.alloc (.cells #[] 3)).heap.size := by simp
    have hq : ∀ w, (binOp .eql 46 (.slice (some ad) n c) (.slice none 0 0)).run Tryz.prog w = .ok (.bool false) w := ints_nil (some ad) n c
    clear hr hl
    go_enter Tryz.func110, Tryz.ntmps110
    go_wp2_with (at_builtin; refine wpList_app _ rfl (.tmp 5) (.tmp 6) intsTy rfl w.heap.size (.slice (some ⟨w.heap.size, 0, none⟩) 0 0) 0 [] rfl ho B _ n _ (l.map (Value.int .i64)) rfl hr1 intC_one (by omega) (by omega) (by simp) ?_; intro A2 c2 w2 hown2 hg2 hat2)
    go_ret
    rw [Nat.zero_add] at hown2
    exact ⟨A2, c2, rfl, by simpa using hown2, hf.grown hg2 (by simp) (fun k hk => .inl (by simp [Value.ownBlock] at hk; omega))⟩
theorem pgTy : SliceTy Tryz.prog 47 166 2 16 := SliceTy.mk' (z := .agg #[.int .i64 0, .int .i64 0]) Tryz.underlying47 (by kernel_rfl) rfl (by omega)
theorem powns_empty (w : World) : (w.alloc (.cells #[] 166)).ownsRow w.heap.size 166 2 (.slice (some ⟨w.heap.size, 0, none⟩) 0 0) 0 [] := by
  refine ⟨rfl, .inr ⟨w.heap.size, 0, #[], rfl, Nat.le_refl _, Blk.new _ _ _, ?_⟩⟩
  simp
theorem pgs_nil (A : Option Addr) (n c : Nat) (w : World) : (binOp .eql 47 (.slice A n c) (.slice none 0 0)).run Tryz.prog w = .ok (.bool A.isNone) w := by
  simp only [binOp]
  simp [run_equal_slice_nil w _ _ A n c Tryz.underlying47]
theorem insC_one {l : List (Int × Int)} : ∀ u ∈ cellsI l, u.oneCell' = true := by
  intro u hu
  obtain ⟨x, _, hx⟩ := List.mem_flatMap.1 hu
  simp only [insC, List.mem_cons, List.not_mem_nil, or_false] at hx
  rcases hx with rfl | rfl <;> rfl
set_option maxRecDepth 100000 in
theorem pclone_any (A : Option Addr) (n c B : Nat) (l : List (Int × Int)) (w : World) (hl : n = l.length) (hn : n ≤ 1000000) (hr : Reads w B 2 A n (cellsI l)) (hB : B ≤ w.heap.size) :
    Calls Tryz.prog 127 #[.slice A n c] w fun e w' => ∃ A' c', e = .returned (.slice A' n c') ∧ w'.ownsRow w.heap.size 166 2 (.slice A' n c') n (cellsI l) ∧ Fr w.heap.size [] w w' := by
  rcases A with _ | ad
  · have h0 : n = 0 := by
      rcases Nat.eq_zero_or_pos n with h | h
      · exact h
      · obtain ⟨b, off, e, _⟩ := hr.2 h
        cases e
    subst h0
    have hle : l = [] := List.eq_nil_of_length_eq_zero hl.symm
    subst hle
    have hq : ∀ w, (binOp .eql 47 (.slice none 0 c) (.slice none 0 0)).run Tryz.prog w = .ok (.bool true) w := pgs_nil none 0 c
    clear hr hn hl
    go_enter Tryz.func127, Tryz.ntmps127
    go_wp2_with fail
    go_ret
    exact ⟨none, 0, rfl, World.ownsRow_nil _ _ _ _, Fr.refl _ _ _⟩
  · have ho := powns_empty w
    have hf := (Fr.refl w.heap.size [] w).alloc (Nat.le_refl _) (.cells #[] 166)
    have hr1 := hr.fr hf hB (by simp)
    have hs : w.heap.size < (w.alloc (.cells #[] 166)).heap.size := by simp
    have hq : ∀ w, (binOp .eql 47 (.slice (some ad) n c) (.slice none 0 0)).run Tryz.prog w = .ok (.bool false) w := pgs_nil (some ad) n c
    clear hr hl
    go_enter Tryz.func127, Tryz.ntmps127
    go_wp2_with (at_builtin; refine wpList_app _ rfl (.tmp 5) (.tmp 6) pgTy rfl w.heap.size (.slice (some ⟨w.heap.size, 0, none⟩) 0 0) 0 [] rfl ho B _ n _ (cellsI l) rfl hr1 insC_one (by omega) (by omega) (by simp) ?_; intro A2 c2 w2 hown2 hg2 hat2)
    go_ret
    rw [Nat.zero_add] at hown2
    exact ⟨A2, c2, rfl, by simpa using hown2, hf.grown hg2 (by simp) (fun k hk => .inl (by simp [Value.ownBlock] at hk; omega))⟩
end Go.Proofs.YtfakgidimekikaaGreat
namespace Go.Proofs.YtfakgidimekikaaGreat
open Go.RowKit Go.Fb
set_option maxRecDepth 100000 in
set_option maxHeartbeats 4000000 in
theorem mul64_any (n : Nat) (hn : n ≤ 24) (w : World) : Calls Tryz.prog 205 #[.int .u64 1, .int .u64 n] w fun e w' => e = .returned (.tuple #[.int .u64 0, .int .u64 n]) ∧ w = w' := by
  have h : n = 0 ∨ n = 1 ∨ n = 2 ∨ n = 3 ∨ n = 4 ∨ n = 5 ∨ n = 6 ∨ n = 7 ∨ n = 8 ∨ n = 9 ∨ n = 10 ∨ n = 11 ∨ n = 12 ∨ n = 13 ∨ n = 14 ∨ n = 15 ∨ n = 16 ∨ n = 17 ∨ n = 18 ∨ n = 19 ∨ n = 20 ∨ n = 21 ∨ n = 22 ∨ n = 23 ∨ n = 24 := by omega
  rcases h with rfl | rfl | rfl | rfl | rfl | rfl | rfl | rfl | rfl | rfl | rfl | rfl | rfl | rfl | rfl | rfl | rfl | rfl | rfl | rfl | rfl | rfl | rfl | rfl | rfl
  all_goals
    go_enter Tryz.func205, Tryz.ntmps205
    go_wp2_with fail
    go_ret2
    exact ⟨rfl, rfl⟩
theorem mul_any (n : Nat) (hn : n ≤ 24) (w : World) : Calls Tryz.prog 196 #[.int .u64 1, .int .u64 n] w fun e w' => e = .returned (.tuple #[.int .u64 0, .int .u64 n]) ∧ w = w' := by
  have H := Lib.hid (mul64_any n hn)
  go_enter Tryz.func196, Tryz.ntmps196
  go_wp2_with fail
  refine (H.out _).mono ?_
  rintro e w' ⟨rfl, rfl⟩
  go_wp2_with fail
  go_ret2
  exact ⟨rfl, rfl⟩
end Go.Proofs.YtfakgidimekikaaGreat
namespace Go.Fb
open Go.RowKit
def setL (w : World) (g : Nat) : Nat → List Value → World
  | _, [] => w
  | o, u :: us => setL (w.setCell ⟨g, o, none⟩ u) g (o + 1) us
def putL (cs : Array Value) : Nat → List Value → Array Value
  | _, [] => cs
  | o, u :: us => putL (cs.setIfInBounds o u) (o + 1) us
theorem blk_setL {g t : Nat} : ∀ (us : List Value) (o : Nat) {w : World} {cs : Array Value}, Blk w g t cs → Blk (setL w g o us) g t (putL cs o us)
  | [], _, _, _, h => h
  | u :: us, o, _, _, h => blk_setL us (o + 1) (h.set_ o u)
theorem fr_setL {B g : Nat} {L : List Nat} {a : World} (hg : B ≤ g ∨ g ∈ L) : ∀ (us : List Value) (o : Nat) {w : World}, Fr B L a w → Fr B L a (setL w g o us)
  | [], _, _, h => h
  | u :: us, o, _, h => fr_setL hg us (o + 1) (h.setCell (p := ⟨g, o, none⟩) hg u)
theorem far_setL {g k t : Nat} (hk : k ≠ g) : ∀ (us : List Value) (o : Nat) {w : World} {cs : Array Value}, Blk w k t cs → Blk (setL w g o us) k t cs
  | [], _, _, _, h => h
  | u :: us, o, _, _, h => far_setL hk us (o + 1) (h.far (p := ⟨g, o, none⟩) hk u)
end Go.Fb
namespace Go.Proofs.YtfakgidimekikaaGreat
open Go.RowKit Go.Fb
def CapN (M : List Ndm) : Prop := ∀ m ∈ M, ∀ A n c, m.2.1 = .slice A n c → n ≤ c
end Go.Proofs.YtfakgidimekikaaGreat
namespace Go.Fb
open Go.RowKit
theorem step_app {P : Program} {w : World} {ops : Array Oper} {o : Oper} {a : Act} {K : Act → World → Prop} {Q : Exit → Act → World → Prop} {E : Prop} (hgd : o.guard = none) (s x : Operand) {t e size bytes : Nat} (T : SliceTy P t e size bytes)
    (ho : o.op = .call { callee := .builtin .append, args := #[s, x], argTypes := #[t, t] })
    (base : Nat) (v : Value) (n : Nat) (xs : List Value) (hs : a.eval s = v) (hown : w.ownsRow base e size v n xs)
    (B : Nat) (A : Option Addr) (m c : Nat) (news : List Value) (hx : a.eval x = .slice A m c) (hr : Reads w B size A m news) (h1 : ∀ u ∈ news, u.oneCell' = true)
    (h63 : n + m ≤ 1073741824) (hb : bytes ≤ 131072) (hbase : base ≤ w.heap.size)
    (h : ∀ A' c' w', w'.ownsRow base e size (.slice A' (n + m) c') (n + m) (xs ++ news) → w.grownBy w' v.ownBlock →
      (Value.ownBlock (.slice A' (n + m) c') = v.ownBlock ∨ Value.ownBlock (.slice A' (n + m) c') = some w.heap.size) → K (a.put o.dst (.slice A' (n + m) c')) w') :
    if Region.wanted o (yielded ops a.tmps) = true then Oper.wp P o a w K Q else E := by
  have hw : Region.wanted o (yielded ops a.tmps) = true := by simp [Region.wanted, hgd]
  rw [if_pos hw]
  exact wp_app w s x T ho base v n xs hs hown B A m c news hx hr h1 h63 hb hbase h
end Go.Fb
namespace Go.Proofs.YtfakgidimekikaaGreat
open Go.RowKit Go.Fb
set_option maxRecDepth 100000 in
set_option maxHeartbeats 4000000 in
theorem rright_any (i : Int × Int) (w : World) : Calls Tryz.prog 155 #[.agg #[.int .i64 i.1, .int .i64 i.2]] w fun e w' => e = .returned (.bool (rightB i)) ∧ Fr w.heap.size [] w w' := by
  obtain ⟨o, a⟩ := i
  obtain ⟨v, hv⟩ : ∃ v, v = rightB (o, a) := ⟨_, rfl⟩
  rw [← hv]
  unfold rightB boF boT at hv
  simp only at hv ⊢
  by_cases c1 : o < 0
  · obtain rfl : v = false := by rw [hv]; exact decide_eq_false (by omega)
    clear hv
    go_enter Tryz.func155, Tryz.ntmps155
    go_wp2_with fail
    go_ret
    exact ⟨rfl, (Fr.refl _ _ _).alloc (Nat.le_refl _) _⟩
  by_cases c2 : 17 < o
  · obtain rfl : v = false := by rw [hv]; exact decide_eq_false (by omega)
    clear hv
    go_enter Tryz.func155, Tryz.ntmps155
    go_wp2_with fail
    go_ret
    exact ⟨rfl, (Fr.refl _ _ _).alloc (Nat.le_refl _) _⟩
  by_cases h12 : o = 1 ∨ o = 2
  · rw [if_pos h12, if_pos h12] at hv
    by_cases a1 : a < -524288
    · obtain rfl : v = false := by rw [hv]; exact decide_eq_false (by omega)
      have hd : decide (-524288 ≤ a) = false := decide_eq_false (by omega)
      clear hv
      rcases h12 with rfl | rfl
      all_goals
        go_enter Tryz.func155, Tryz.ntmps155
        go_wp2_with fail
        go_ret
        exact ⟨rfl, (Fr.refl _ _ _).alloc (Nat.le_refl _) _⟩
    by_cases a2 : 524287 < a
    · obtain rfl : v = false := by rw [hv]; exact decide_eq_false (by omega)
      have hd : decide (a ≤ 524287) = false := decide_eq_false (by omega)
      clear hv
      rcases h12 with rfl | rfl
      all_goals
        go_enter Tryz.func155, Tryz.ntmps155
        go_wp2_with fail
        go_ret
        exact ⟨rfl, (Fr.refl _ _ _).alloc (Nat.le_refl _) _⟩
    · obtain rfl : v = true := by rw [hv]; exact decide_eq_true (by omega)
      have hd : decide (a ≤ 524287) = true := decide_eq_true (by omega)
      have hd2 : decide (-524288 ≤ a) = true := decide_eq_true (by omega)
      clear hv
      rcases h12 with rfl | rfl
      all_goals
        go_enter Tryz.func155, Tryz.ntmps155
        go_wp2_with fail
        go_ret
        exact ⟨rfl, (Fr.refl _ _ _).alloc (Nat.le_refl _) _⟩
  rw [if_neg h12, if_neg h12] at hv
  by_cases h45 : o = 4 ∨ o = 5
  · rw [if_pos h45, if_pos h45] at hv
    by_cases a0 : a = 0
    · obtain rfl : v = true := by rw [hv]; exact decide_eq_true (by omega)
      subst a0
      clear hv
      rcases h45 with rfl | rfl
      all_goals
        go_enter Tryz.func155, Tryz.ntmps155
        go_wp2_with fail
        go_ret
        exact ⟨rfl, (Fr.refl _ _ _).alloc (Nat.le_refl _) _⟩
    by_cases a1 : a = 1
    · obtain rfl : v = true := by rw [hv]; exact decide_eq_true (by omega)
      subst a1
      clear hv
      rcases h45 with rfl | rfl
      all_goals
        go_enter Tryz.func155, Tryz.ntmps155
        go_wp2_with fail
        go_ret
        exact ⟨rfl, (Fr.refl _ _ _).alloc (Nat.le_refl _) _⟩
    · obtain rfl : v = false := by rw [hv]; exact decide_eq_false (by omega)
      have e0 : (a == 0) = false := by simpa using a0
      have e1 : (a == 1) = false := by simpa using a1
      clear hv
      rcases h45 with rfl | rfl
      all_goals
        go_enter Tryz.func155, Tryz.ntmps155
        go_wp2_with fail
        go_ret
        exact ⟨rfl, (Fr.refl _ _ _).alloc (Nat.le_refl _) _⟩
  rw [if_neg h45, if_neg h45] at hv
  by_cases hj : o = 15 ∨ o = 16
  · rw [if_pos hj, if_pos hj] at hv
    by_cases a1 : a < 1
    · obtain rfl : v = false := by rw [hv]; exact decide_eq_false (by omega)
      have hd : decide (1 ≤ a) = false := decide_eq_false (by omega)
      clear hv
      rcases hj with rfl | rfl
      all_goals
        go_enter Tryz.func155, Tryz.ntmps155
        go_wp2_with fail
        go_ret
        exact ⟨rfl, (Fr.refl _ _ _).alloc (Nat.le_refl _) _⟩
    by_cases a2 : 24 < a
    · obtain rfl : v = false := by rw [hv]; exact decide_eq_false (by omega)
      have hd : decide (a ≤ 24) = false := decide_eq_false (by omega)
      clear hv
      rcases hj with rfl | rfl
      all_goals
        go_enter Tryz.func155, Tryz.ntmps155
        go_wp2_with fail
        go_ret
        exact ⟨rfl, (Fr.refl _ _ _).alloc (Nat.le_refl _) _⟩
    · obtain rfl : v = true := by rw [hv]; exact decide_eq_true (by omega)
      have hd : decide (a ≤ 24) = true := decide_eq_true (by omega)
      have hd2 : decide (1 ≤ a) = true := decide_eq_true (by omega)
      clear hv
      rcases hj with rfl | rfl
      all_goals
        go_enter Tryz.func155, Tryz.ntmps155
        go_wp2_with fail
        go_ret
        exact ⟨rfl, (Fr.refl _ _ _).alloc (Nat.le_refl _) _⟩
  · rw [if_neg hj, if_neg hj] at hv
    have n1 : (o == 1) = false := by simp; omega
    have n2 : (o == 2) = false := by simp; omega
    have n4 : (o == 4) = false := by simp; omega
    have n5 : (o == 5) = false := by simp; omega
    have n15 : (o == 15) = false := by simp; omega
    have n16 : (o == 16) = false := by simp; omega
    obtain rfl : v = (a == 0) := by rw [hv, Bool.eq_iff_iff]; simp; omega
    clear hv h12 h45 hj
    go_enter Tryz.func155, Tryz.ntmps155
    go_wp2_with fail
    go_ret
    exact ⟨rfl, (Fr.refl _ _ _).alloc (Nat.le_refl _) _⟩
set_option maxRecDepth 100000 in
theorem rfits_any (A : Option Addr) (c B : Nat) (l : List (Int × Int)) (w : World) (hr : Reads w B 2 A l.length (cellsI l)) (hB : B ≤ w.heap.size) (hn : l.length ≤ maxLen) :
    Calls Tryz.prog 128 #[.slice A l.length c] w fun e w' => e = .returned (.bool (fitsB l)) ∧ Fr w.heap.size [] w w' := by
  unfold maxLen at hn
  have HR := Lib.hid hr
  obtain ⟨n, hnl⟩ : ∃ n, n = l.length := ⟨_, rfl⟩
  have HV := Lib.hid (show fitsB l = (decide (n ≤ 24) && l.all rightB) by rw [hnl]; rfl)
  rw [← hnl] at hn ⊢
  have HN := Lib.hid hnl
  clear hr hnl
  go_enter Tryz.func128, Tryz.ntmps128
  go_wp2_with fail
  go_loopw [3] (fun i wr => ∃ k : Nat, k ≤ n ∧ i = .int .i64 k ∧ RowKit.Hid ((l.take k).all rightB = true) ∧ RowKit.Hid (Fr w.heap.size [] w wr)) (fun i _ => n - (intOf i).toNat)
  case atStart => exact ⟨0, Nat.zero_le _, rfl, rfl, Fr.refl _ _ _⟩
  case round =>
    obtain ⟨k, hk, rfl, HA, HF⟩ := hrel
    by_cases hlt : k < n
    · obtain ⟨x, hx⟩ : ∃ x, l[k]? = some x := ⟨_, List.getElem?_eq_getElem (by rw [← HN.out]; exact hlt)⟩
      obtain ⟨b, off, rfl, hb, c1, c2⟩ := reads_ins (HR.out.fr HF.out hB (by simp)) hx
      have hki : (k : Int) < (n : Int) := by omega
      have HX := Lib.hid hx
      clear hx
      go_wp2_with fail
      refine (rright_any x _).mono ?_
      rintro e w1 ⟨rfl, f1⟩
      have F1 := Lib.hid (HF.out.trans (f1.mono (B' := w.heap.size) (L' := []) HF.out.size (by simp)))
      clear f1
      cases hrx : rightB x
      case false =>
        have HVV := Lib.hid (all_bad HX.out hrx)
        clear hrx
        go_wp2_with fail
        go_ret
        exact ⟨by rw [HV.out, HVV.out]; simp, F1.out⟩
      case true =>
        have HVV := Lib.hid hrx
        clear hrx
        go_wp2_with fail
        go_roundw
        case rel => exact ⟨k + 1, by omega, by go_num, (by show _ = _; rw [all_take_succ HX.out, HA.out, HVV.out]; rfl), F1.out⟩
        case measure => simp [intOf]; omega
    · obtain rfl : n = k := by omega
      have h := HA.out
      rw [List.take_of_length_le (by rw [HN.out]; exact Nat.le_refl _)] at h
      have HH := Lib.hid h
      clear h
      go_wp2_with fail
      go_ret
      exact ⟨by rw [HV.out, HH.out, Bool.and_true]; simp; omega, HF.out⟩
set_option maxRecDepth 100000 in
set_option maxHeartbeats 4000000 in
theorem take_any (o : Int) (ho : 0 ≤ o ∧ o ≤ 17) (w : World) : Calls Tryz.prog 129 #[.int .i64 o] w fun e w' => e = .returned (.int .i64 (takesF o)) ∧ w = w' := by
  have h : o = 0 ∨ o = 1 ∨ o = 2 ∨ o = 3 ∨ o = 4 ∨ o = 5 ∨ o = 6 ∨ o = 7 ∨ o = 8 ∨ o = 9 ∨ o = 10 ∨ o = 11 ∨ o = 12 ∨ o = 13 ∨ o = 14 ∨ o = 15 ∨ o = 16 ∨ o = 17 := by omega
  clear ho
  rcases h with rfl | rfl | rfl | rfl | rfl | rfl | rfl | rfl | rfl | rfl | rfl | rfl | rfl | rfl | rfl | rfl | rfl | rfl
  all_goals
    go_enter Tryz.func129, Tryz.ntmps129
    go_wp2_with fail
    go_ret
    exact ⟨by simp [takesF], rfl⟩
set_option maxRecDepth 100000 in
set_option maxHeartbeats 4000000 in
theorem leave_any (o : Int) (ho : 0 ≤ o ∧ o ≤ 17) (w : World) : Calls Tryz.prog 130 #[.int .i64 o] w fun e w' => e = .returned (.int .i64 (leavesF o)) ∧ w = w' := by
  have h : o = 0 ∨ o = 1 ∨ o = 2 ∨ o = 3 ∨ o = 4 ∨ o = 5 ∨ o = 6 ∨ o = 7 ∨ o = 8 ∨ o = 9 ∨ o = 10 ∨ o = 11 ∨ o = 12 ∨ o = 13 ∨ o = 14 ∨ o = 15 ∨ o = 16 ∨ o = 17 := by omega
  clear ho
  rcases h with rfl | rfl | rfl | rfl | rfl | rfl | rfl | rfl | rfl | rfl | rfl | rfl | rfl | rfl | rfl | rfl | rfl | rfl
  all_goals
    go_enter Tryz.func130, Tryz.ntmps130
    go_wp2_with fail
    go_ret
    exact ⟨by simp [leavesF], rfl⟩
end Go.Proofs.YtfakgidimekikaaGreat
namespace Go.Proofs.YtfakgidimekikaaGreat
/-- A place that is come to, with a depth and emits. -/
structure Tri where
  at_ : Nat
  d : Int
  e : Int
deriving DecidableEq
/-- What an instruction leads on to. -/
def succT (n : Nat) (p : Nat → Int × Int) (x : Tri) : List Tri :=
  (nextsF n x.at_ (p x.at_)).map fun t => ⟨t, x.d - takesF (p x.at_).1 + leavesF (p x.at_).1, if (p x.at_).1 = 14 then x.e + 1 else x.e⟩
inductive Reach (n : Nat) (p : Nat → Int × Int) : Tri → Prop
  | start : Reach n p ⟨0, 0, 0⟩
  | step {x y : Tri} : Reach n p x → x.at_ < n → takesF (p x.at_).1 ≤ x.d → y ∈ succT n p x → Reach n p y
/-- What may not be. -/
def badT (n : Nat) (p : Nat → Int × Int) (x : Tri) : Prop := 8 < x.d ∨ 4 < x.e ∨ (x.at_ < n ∧ x.d < takesF (p x.at_).1)
/-- Something may not be: a bad one, or two depths at one place. -/
def Fault (n : Nat) (p : Nat → Int × Int) : Prop := (∃ x, Reach n p x ∧ badT n p x) ∨ ∃ x y, Reach n p x ∧ Reach n p y ∧ x.at_ = y.at_ ∧ x.at_ < n ∧ x.d ≠ y.d
/-- What is known by each state of the check. -/
structure Comp (n : Nat) (p : Nat → Int × Int) (s : CS) : Prop where
  d : ∀ k, s.D k ≠ -1 → Reach n p ⟨k, s.D k, s.E k⟩
  e : ∀ k, s.D k = -1 → s.E k = 0
  mx : ∃ x, Reach n p x ∧ x.d = s.mx
  em : ∃ x, Reach n p x ∧ x.e = s.em
theorem Comp.start (n : Nat) (p : Nat → Int × Int) : Comp n p (startF n) := by
  refine ⟨fun k hk => ?_, fun _ _ => rfl, ⟨_, .start, rfl⟩, ⟨_, .start, rfl⟩⟩
  simp only [startF] at hk ⊢
  split at hk
  · exact absurd rfl hk
  · split at hk
    · rename_i h1 h2
      subst h2
      rw [if_neg h1, if_pos rfl]
      exact .start
    · exact absurd rfl hk
theorem Comp.use {n : Nat} {p : Nat → Int × Int} {s : CS} (C : Comp n p s) (i : Int × Int) : Comp n p (useF s i) := by
  unfold useF; split
  · split <;> exact ⟨C.d, C.e, C.mx, C.em⟩
  · exact C
theorem Comp.come {n : Nat} {p : Nat → Int × Int} {s : CS} (C : Comp n p s) {t : Nat} {d e : Int} (ht : t ≤ n) (hd : 0 ≤ d) (he : 0 ≤ e) (hr : Reach n p ⟨t, d, e⟩) : (comeF n s t d e = none → Fault n p) ∧ ∀ s', comeF n s t d e = some s' → Comp n p s' := by
  have mxx : ∃ x, Reach n p x ∧ x.d = max s.mx d := by
    obtain ⟨x, h1, h2⟩ := C.mx
    by_cases c : d ≤ s.mx
    · exact ⟨x, h1, by omega⟩
    · exact ⟨_, hr, by show d = max s.mx d; omega⟩
  have emx : ∃ x, Reach n p x ∧ x.e = max s.em e := by
    obtain ⟨x, h1, h2⟩ := C.em
    by_cases c : e ≤ s.em
    · exact ⟨x, h1, by omega⟩
    · exact ⟨_, hr, by show e = max s.em e; omega⟩
  unfold comeF
  by_cases h1 : 8 < d ∨ 4 < e
  · rw [if_pos h1]
    refine ⟨fun _ => .inl ⟨_, hr, ?_⟩, fun _ h => (nomatch h)⟩
    rcases h1 with h | h
    · exact .inl h
    · exact .inr (.inl h)
  · rw [if_neg h1]
    by_cases h2 : t = n
    · rw [if_pos h2]
      refine ⟨fun h => (nomatch h), fun s' h => ?_⟩
      injection h with h; subst h
      exact ⟨C.d, C.e, mxx, emx⟩
    · rw [if_neg h2]
      by_cases h3 : s.D t ≠ -1 ∧ s.D t ≠ d
      · rw [if_pos h3]
        exact ⟨fun _ => .inr ⟨_, _, C.d t h3.1, hr, rfl, by show t < n; omega, h3.2⟩, fun _ h => (nomatch h)⟩
      · rw [if_neg h3]
        refine ⟨fun h => (nomatch h), fun s' h => ?_⟩
        injection h with h; subst h
        refine ⟨fun k hk => ?_, fun k hk => ?_, mxx, emx⟩
        · simp only [updC] at hk ⊢
          by_cases c : k = t
          · subst c
            rw [if_pos rfl, if_pos rfl]
            by_cases c1 : s.D k = -1
            · rw [C.e k c1, show max 0 e = e by omega]; exact hr
            · have c2 : s.D k = d := by
                by_cases c2 : s.D k = d
                · exact c2
                · exact absurd ⟨c1, c2⟩ h3
              by_cases c4 : e ≤ s.E k
              · rw [show max (s.E k) e = s.E k by omega, ← c2]; exact C.d k c1
              · rw [show max (s.E k) e = e by omega]; exact hr
          · rw [if_neg c] at hk
            rw [if_neg c, if_neg c]; exact C.d k hk
        · simp only [updC] at hk ⊢
          by_cases c : k = t
          · rw [if_pos c] at hk
            omega
          · rw [if_neg c] at hk
            rw [if_neg c]; exact C.e k hk
theorem Comp.comes {n : Nat} {p : Nat → Int × Int} {d e : Int} (hd : 0 ≤ d) (he : 0 ≤ e) : ∀ (l : List Nat) {s : CS}, Comp n p s → (∀ t ∈ l, t ≤ n ∧ Reach n p ⟨t, d, e⟩) → (comesF n d e l s = none → Fault n p) ∧ ∀ s', comesF n d e l s = some s' → Comp n p s'
  | [], s, C, _ => ⟨fun h => (nomatch h), fun s' h => by injection h with h; subst h; exact C⟩
  | t :: l, s, C, hl => by
    obtain ⟨h1, h2⟩ := hl t (by simp)
    obtain ⟨a, b⟩ := C.come h1 hd he h2
    unfold comesF
    split
    · rename_i h; exact ⟨fun _ => a h, fun _ h => (nomatch h)⟩
    · rename_i s2 h
      exact Comp.comes hd he l (b s2 h) (fun t ht => hl t (by simp [ht]))
theorem Comp.step {n : Nat} {p : Nat → Int × Int} {s : CS} (C : Comp n p s) (I : CInv n s) {k : Nat} (hk : k < n) (hD : s.D k ≠ -1) : (stepF n p s k = none → Fault n p) ∧ ∀ s', stepF n p s k = some s' → Comp n p s' := by
  have hr := C.d k hD
  have di := I.d k
  have lr := leavesF_range (p k).1
  unfold stepF
  by_cases h1 : s.D k < takesF (p k).1
  · rw [if_pos h1]
    exact ⟨fun _ => .inl ⟨_, hr, .inr (.inr ⟨hk, h1⟩)⟩, fun _ h => (nomatch h)⟩
  · rw [if_neg h1]
    refine Comp.comes (by omega) (emF_range I k (p k)).1 _ (C.use (p k)) (fun t ht => ⟨nextsF_le hk _ t ht, ?_⟩)
    refine .step hr hk (by show takesF (p k).1 ≤ s.D k; omega) ?_
    unfold succT
    rw [List.mem_map]
    exact ⟨t, ht, rfl⟩
theorem check_comp {n : Nat} {p : Nat → Int × Int} : ∀ {m : Nat}, m ≤ n → (checkF n p m = none → Fault n p) ∧ ∀ s, checkF n p m = some s → Comp n p s
  | 0, _ => ⟨fun h => (nomatch h), fun s h => by injection h with h; subst h; exact Comp.start n p⟩
  | m + 1, hm => by
    obtain ⟨a, b⟩ := check_comp (n := n) (p := p) (m := m) (by omega)
    unfold checkF
    split
    · rename_i h; exact ⟨fun _ => a h, fun _ h => (nomatch h)⟩
    · rename_i s h
      have C := b s h
      by_cases h2 : s.D m = -1
      · simp only [if_pos h2]
        exact ⟨fun h => (nomatch h), fun s' h => by injection h with h; subst h; exact C⟩
      · simp only [if_neg h2]
        exact C.step (checkF_inv (by omega) h) (by omega) h2
/-- What was known stays known. -/
structure Grew (s s' : CS) : Prop where
  d : ∀ k, s.D k ≠ -1 → s'.D k = s.D k
  e : ∀ k, s.E k ≤ s'.E k
  mx : s.mx ≤ s'.mx
  em : s.em ≤ s'.em
  u0 : s.u0 = true → s'.u0 = true
  u1 : s.u1 = true → s'.u1 = true
theorem Grew.refl (s : CS) : Grew s s := ⟨fun _ _ => rfl, fun _ => Int.le_refl _, Int.le_refl _, Int.le_refl _, id, id⟩
theorem Grew.trans {a b c : CS} (h : Grew a b) (k : Grew b c) : Grew a c :=
  ⟨fun x hx => by rw [k.d x (by rw [h.d x hx]; exact hx), h.d x hx], fun x => Int.le_trans (h.e x) (k.e x), Int.le_trans h.mx k.mx, Int.le_trans h.em k.em, fun x => k.u0 (h.u0 x), fun x => k.u1 (h.u1 x)⟩
theorem Grew.come {n : Nat} {s s' : CS} {t : Nat} {d e : Int} (h : comeF n s t d e = some s') : Grew s s' := by
  unfold comeF at h
  split at h
  · cases h
  · split at h
    · injection h with h; subst h
      exact ⟨fun _ _ => rfl, fun _ => Int.le_refl _, by show s.mx ≤ max _ _; omega, by show s.em ≤ max _ _; omega, id, id⟩
    · split at h
      · cases h
      · rename_i h3
        injection h with h; subst h
        refine ⟨fun k hk => ?_, fun k => ?_, by show s.mx ≤ max _ _; omega, by show s.em ≤ max _ _; omega, id, id⟩
        · simp only [updC]
          by_cases c : k = t
          · subst c
            rw [if_pos rfl]
            by_cases c2 : s.D k = d
            · exact c2.symm
            · exact absurd ⟨hk, c2⟩ h3
          · rw [if_neg c]
        · simp only [updC]
          by_cases c : k = t
          · subst c; rw [if_pos rfl]; omega
          · rw [if_neg c]; exact Int.le_refl _
theorem Grew.comes {n : Nat} {d e : Int} : ∀ (l : List Nat) {s s' : CS}, comesF n d e l s = some s' → Grew s s'
  | [], s, s', h => by injection h with h; subst h; exact Grew.refl s
  | t :: l, s, s', h => by
    unfold comesF at h
    split at h
    · cases h
    · rename_i s2 h2
      exact (Grew.come h2).trans (Grew.comes l h)
theorem Grew.use (s : CS) (i : Int × Int) : Grew s (useF s i) := by
  unfold useF; split
  · split <;> exact ⟨fun _ _ => rfl, fun _ => Int.le_refl _, Int.le_refl _, Int.le_refl _, (fun h => by simp [h]), (fun h => by simp [h])⟩
  · exact Grew.refl s
theorem Grew.step {n : Nat} {p : Nat → Int × Int} {s s' : CS} {k : Nat} (h : stepF n p s k = some s') : Grew s s' := by
  unfold stepF at h
  split at h
  · cases h
  · exact (Grew.use s (p k)).trans (Grew.comes _ h)
theorem Grew.check {n : Nat} {p : Nat → Int × Int} : ∀ {m k : Nat} {s s' : CS}, k ≤ m → checkF n p k = some s → checkF n p m = some s' → Grew s s'
  | 0, k, s, s', hk, h, h1 => by
    obtain rfl : k = 0 := by omega
    rw [h] at h1; injection h1 with h1; subst h1; exact Grew.refl s
  | m + 1, k, s, s', hk, h, h1 => by
    by_cases he : k = m + 1
    · subst he; rw [h] at h1; injection h1 with h1; subst h1; exact Grew.refl s
    · unfold checkF at h1
      split at h1
      · cases h1
      · rename_i s2 h2
        have a := Grew.check (by omega) h h2
        split at h1
        · injection h1 with h1; subst h1; exact a
        · exact a.trans (Grew.step h1)
/-- Behind its own step a place is changed no more. -/
theorem come_off {n : Nat} {s s' : CS} {t : Nat} {d e : Int} (h : comeF n s t d e = some s') (k : Nat) (hk : k ≠ t) : s'.D k = s.D k ∧ s'.E k = s.E k := by
  unfold comeF at h
  split at h
  · cases h
  · split at h
    · injection h with h; subst h; exact ⟨rfl, rfl⟩
    · split at h
      · cases h
      · injection h with h; subst h
        simp only [updC]
        rw [if_neg hk, if_neg hk]
        exact ⟨rfl, rfl⟩
theorem comes_off {n : Nat} {d e : Int} (k : Nat) : ∀ (l : List Nat) {s s' : CS}, (∀ t ∈ l, k ≠ t) → comesF n d e l s = some s' → s'.D k = s.D k ∧ s'.E k = s.E k
  | [], s, s', _, h => by injection h with h; subst h; exact ⟨rfl, rfl⟩
  | t :: l, s, s', hl, h => by
    unfold comesF at h
    split at h
    · cases h
    · rename_i s2 h2
      obtain ⟨a, b⟩ := come_off h2 k (hl t (by simp))
      obtain ⟨c, d⟩ := comes_off k l (fun t ht => hl t (by simp [ht])) h
      exact ⟨c.trans a, d.trans b⟩
theorem come_knows {n : Nat} {s s' : CS} {t : Nat} {d e : Int} (h : comeF n s t d e = some s') (_ : t ≤ n) : (t < n → s'.D t = d ∧ e ≤ s'.E t) ∧ d ≤ s'.mx ∧ e ≤ s'.em ∧ d ≤ 8 ∧ e ≤ 4 := by
  unfold comeF at h
  split at h
  · cases h
  · rename_i h1
    split at h
    · injection h with h; subst h
      exact ⟨fun _ => by omega, by show d ≤ max _ _; omega, by show e ≤ max _ _; omega, by omega, by omega⟩
    · split at h
      · cases h
      · injection h with h; subst h
        refine ⟨fun _ => ?_, by show d ≤ max _ _; omega, by show e ≤ max _ _; omega, by omega, by omega⟩
        simp only [updC]
        rw [if_pos trivial, if_pos trivial]
        exact ⟨rfl, by omega⟩
theorem comes_knows {n : Nat} {d e : Int} (hd : 0 ≤ d) : ∀ (l : List Nat) {s s' : CS}, (∀ t ∈ l, t ≤ n) → comesF n d e l s = some s' → ∀ t ∈ l, (t < n → s'.D t = d ∧ e ≤ s'.E t) ∧ d ≤ s'.mx ∧ e ≤ s'.em ∧ d ≤ 8 ∧ e ≤ 4
  | [], _, _, _, _, t, ht => by cases ht
  | x :: l, s, s', hl, h, t, ht => by
    unfold comesF at h
    split at h
    · cases h
    · rename_i s2 h2
      have G := Grew.comes l h
      rcases List.mem_cons.1 ht with rfl | ht
      · obtain ⟨a, b, c, d1, d2⟩ := come_knows h2 (hl t (by simp))
        refine ⟨fun hn => ?_, Int.le_trans b G.mx, Int.le_trans c G.em, d1, d2⟩
        obtain ⟨a1, a2⟩ := a hn
        exact ⟨by rw [G.d t (by omega), a1], Int.le_trans a2 (G.e t)⟩
      · exact comes_knows hd l (fun t ht => hl t (by simp [ht])) h t ht
theorem later_off {n : Nat} {p : Nat → Int × Int} (hgt : ∀ k, k < n → ∀ t ∈ nextsF n k (p k), k < t) : ∀ {m k : Nat} {s s' : CS}, k ≤ m → m ≤ n → checkF n p k = some s → checkF n p m = some s' → s'.D k = s.D k ∧ s'.E k = s.E k
  | 0, k, s, s', hk, _, h, h1 => by
    obtain rfl : k = 0 := by omega
    rw [h] at h1; injection h1 with h1; subst h1; exact ⟨rfl, rfl⟩
  | m + 1, k, s, s', hk, hm, h, h1 => by
    by_cases he : k = m + 1
    · subst he; rw [h] at h1; injection h1 with h1; subst h1; exact ⟨rfl, rfl⟩
    · unfold checkF at h1
      split at h1
      · cases h1
      · rename_i s2 h2
        obtain ⟨a, b⟩ := later_off hgt (by omega) (by omega) h h2
        split at h1
        · injection h1 with h1; subst h1; exact ⟨a, b⟩
        · unfold stepF at h1
          split at h1
          · cases h1
          · obtain ⟨c, d⟩ := comes_off k _ (fun t ht => by have := hgt m (by omega) t ht; omega) h1
            obtain ⟨_, _, u3, u4⟩ : (useF s2 (p m)).em = s2.em ∧ (useF s2 (p m)).mx = s2.mx ∧ (useF s2 (p m)).E = s2.E ∧ (useF s2 (p m)).D = s2.D := by
              unfold useF; split; (split <;> exact ⟨rfl, rfl, rfl, rfl⟩); exact ⟨rfl, rfl, rfl, rfl⟩
            rw [c, d, u3, u4]
            exact ⟨a, b⟩
/-- A place that was come to has been gone on from. -/
theorem stepped {n : Nat} {p : Nat → Int × Int} (hgt : ∀ k, k < n → ∀ t ∈ nextsF n k (p k), k < t) {s : CS} (h : checkF n p n = some s) {k : Nat} (hk : k < n) (hD : s.D k ≠ -1) :
    ∃ sk s1, checkF n p k = some sk ∧ sk.D k = s.D k ∧ sk.E k = s.E k ∧ stepF n p sk k = some s1 ∧ Grew s1 s := by
  have pre : ∀ m, m ≤ n → ∃ sm, checkF n p m = some sm := by
    intro m hm
    cases hc : checkF n p m with
    | some sm => exact ⟨sm, rfl⟩
    | none =>
      have : ∀ d, checkF n p (m + d) = none := by
        intro d
        induction d with
        | zero => exact hc
        | succ d ih => show checkF n p (m + d + 1) = none; unfold checkF; rw [ih]
      have := this (n - m)
      rw [show m + (n - m) = n by omega, h] at this
      cases this
  obtain ⟨sk, h1⟩ := pre k (by omega)
  obtain ⟨s2, h2⟩ := pre (k + 1) (by omega)
  obtain ⟨a, b⟩ := later_off hgt (by omega) (Nat.le_refl _) h1 h
  have h3 := h2
  unfold checkF at h3
  rw [h1] at h3
  simp only at h3
  rw [if_neg (by rw [← a]; exact hD)] at h3
  exact ⟨sk, s2, h1, a.symm, b.symm, h3, Grew.check (by omega) h2 h⟩
/-- What the check says of all that can be come to. -/
structure Sound (n : Nat) (p : Nat → Int × Int) (s : CS) (x : Tri) : Prop where
  at_ : x.at_ ≤ n
  d : 0 ≤ x.d ∧ x.d ≤ 8
  e : 0 ≤ x.e ∧ x.e ≤ 4
  in_ : x.at_ < n → s.D x.at_ = x.d ∧ x.e ≤ s.E x.at_ ∧ takesF (p x.at_).1 ≤ x.d
  mx : x.d ≤ s.mx
  em : x.e ≤ s.em
theorem takes_ok {n : Nat} {p : Nat → Int × Int} (hgt : ∀ k, k < n → ∀ t ∈ nextsF n k (p k), k < t) {s : CS} (h : checkF n p n = some s) {k : Nat} (hk : k < n) (hD : s.D k ≠ -1) : takesF (p k).1 ≤ s.D k := by
  obtain ⟨sk, s1, _, h2, _, h4, _⟩ := stepped hgt h hk hD
  unfold stepF at h4
  split at h4
  · cases h4
  · omega
theorem sound {n : Nat} {p : Nat → Int × Int} (hgt : ∀ k, k < n → ∀ t ∈ nextsF n k (p k), k < t) {s : CS} (h : checkF n p n = some s) {x : Tri} (hx : Reach n p x) : Sound n p s x := by
  induction hx with
  | start =>
    have G := Grew.check (Nat.zero_le n) (show checkF n p 0 = some (startF n) from rfl) h
    have I := checkF_inv (Nat.le_refl _) h
    refine ⟨Nat.zero_le _, ⟨Int.le_refl _, by show (0 : Int) ≤ 8; decide⟩, ⟨Int.le_refl _, by show (0 : Int) ≤ 4; decide⟩, fun hn => ?_, I.mx.1, I.em.1⟩
    have h0 : (startF n).D 0 = 0 := by
      show (if n = 0 then (-1 : Int) else if 0 = 0 then 0 else -1) = 0
      rw [if_neg (by intro e; subst e; exact absurd hn (by show ¬ 0 < 0; omega)), if_pos rfl]
    have hD : s.D 0 = 0 := by rw [G.d 0 (by rw [h0]; decide), h0]
    have ht := takes_ok hgt h hn (by show s.D 0 ≠ -1; rw [hD]; decide)
    exact ⟨hD, (I.e 0).1, by show takesF (p 0).1 ≤ 0; rw [← hD]; exact ht⟩
  | @step x y hx hat htk hy ih =>
    obtain ⟨d1, d2, d3⟩ := ih.in_ hat
    have dd := ih.d
    have ee := ih.e
    obtain ⟨sk, s1, g1, g2, g3, g4, G⟩ := stepped hgt h hat (by omega)
    have Ik := checkF_inv (by omega) g1
    unfold succT at hy
    obtain ⟨t, ht, rfl⟩ := List.mem_map.1 hy
    have htn := nextsF_le hat (p x.at_) t ht
    have lr := leavesF_range (p x.at_).1
    have hE0 : 0 ≤ (if (p x.at_).1 = 14 then x.e + 1 else x.e) := by split <;> omega
    have hge : (if (p x.at_).1 = 14 then x.e + 1 else x.e) ≤ emF sk x.at_ (p x.at_) := by
      unfold emF; split <;> omega
    unfold stepF at g4
    rw [if_neg (by omega)] at g4
    obtain ⟨k1, k2, k3, k4, k5⟩ := comes_knows (by omega) _ (nextsF_le hat (p x.at_)) g4 t ht
    rw [g2, d1] at k1 k2 k4
    refine ⟨htn, ⟨by show 0 ≤ x.d - _ + _; omega, k4⟩, ⟨hE0, Int.le_trans hge k5⟩, fun hn => ?_, Int.le_trans k2 G.mx, Int.le_trans (Int.le_trans hge k3) G.em⟩
    obtain ⟨m1, m2⟩ := k1 hn
    have hDt : s.D t = x.d - takesF (p x.at_).1 + leavesF (p x.at_).1 := by rw [G.d t (by omega), m1]
    have := takes_ok hgt h hn (show s.D t ≠ -1 by omega)
    exact ⟨hDt, Int.le_trans hge (Int.le_trans m2 (G.e t)), by show takesF (p t).1 ≤ _; rw [← hDt]; exact this⟩
theorem comes_u {n : Nat} {d e : Int} : ∀ (l : List Nat) {s s' : CS}, comesF n d e l s = some s' → s'.u0 = s.u0 ∧ s'.u1 = s.u1
  | [], s, s', h => by injection h with h; subst h; exact ⟨rfl, rfl⟩
  | t :: l, s, s', h => by
    unfold comesF at h
    split at h
    · cases h
    · rename_i s2 h2
      obtain ⟨a, b⟩ := comes_u l h
      have : s2.u0 = s.u0 ∧ s2.u1 = s.u1 := by
        unfold comeF at h2
        split at h2
        · cases h2
        · split at h2
          · injection h2 with h2; subst h2; exact ⟨rfl, rfl⟩
          · split at h2
            · cases h2
            · injection h2 with h2; subst h2; exact ⟨rfl, rfl⟩
      rw [a, b, this.1, this.2]; exact ⟨rfl, rfl⟩
def usesAt (i : Int × Int) (z : Bool) : Prop := (i.1 = 4 ∨ i.1 = 5) ∧ (if z then i.2 = 0 else i.2 ≠ 0)
theorem useF_u (s : CS) (i : Int × Int) : ((useF s i).u0 = true ↔ s.u0 = true ∨ usesAt i true) ∧ ((useF s i).u1 = true ↔ s.u1 = true ∨ usesAt i false) := by
  unfold useF usesAt
  by_cases h : i.1 = 4 ∨ i.1 = 5
  · rw [if_pos h]
    by_cases h2 : i.2 = 0
    · rw [if_pos h2]; simp [h, h2]
    · rw [if_neg h2]; simp [h, h2]
  · rw [if_neg h]; simp [h]
/-- Which cells are used. -/
theorem check_u {n : Nat} {p : Nat → Int × Int} : ∀ {m : Nat} {s : CS}, m ≤ n → checkF n p m = some s → (s.u0 = true → ∃ k, k < m ∧ s.D k ≠ -1 ∧ usesAt (p k) true) ∧ (s.u1 = true → ∃ k, k < m ∧ s.D k ≠ -1 ∧ usesAt (p k) false)
  | 0, s, _, h => by injection h with h; subst h; exact ⟨fun h => (nomatch h), fun h => (nomatch h)⟩
  | m + 1, s, hm, h => by
    unfold checkF at h
    split at h
    · cases h
    · rename_i s1 h1
      obtain ⟨a, b⟩ := check_u (by omega) h1
      split at h
      · injection h with h; subst h
        exact ⟨fun x => by obtain ⟨k, k1, k2⟩ := a x; exact ⟨k, by omega, k2⟩, fun x => by obtain ⟨k, k1, k2⟩ := b x; exact ⟨k, by omega, k2⟩⟩
      · rename_i h2
        have G := Grew.step h
        have hs : s.u0 = (useF s1 (p m)).u0 ∧ s.u1 = (useF s1 (p m)).u1 := by
          unfold stepF at h
          split at h
          · cases h
          · exact comes_u _ h
        obtain ⟨w0, w1⟩ := useF_u s1 (p m)
        refine ⟨fun x => ?_, fun x => ?_⟩
        · rw [hs.1] at x
          rcases w0.1 x with x | x
          · obtain ⟨k, k1, k2, k3⟩ := a x
            exact ⟨k, by omega, by rw [G.d k k2]; exact k2, k3⟩
          · exact ⟨m, by omega, by rw [G.d m h2]; exact h2, x⟩
        · rw [hs.2] at x
          rcases w1.1 x with x | x
          · obtain ⟨k, k1, k2, k3⟩ := b x
            exact ⟨k, by omega, by rw [G.d k k2]; exact k2, k3⟩
          · exact ⟨m, by omega, by rw [G.d m h2]; exact h2, x⟩
theorem check_u' {n : Nat} {p : Nat → Int × Int} (hgt : ∀ k, k < n → ∀ t ∈ nextsF n k (p k), k < t) {s : CS} (h : checkF n p n = some s) {k : Nat} (hk : k < n) (hD : s.D k ≠ -1) : (usesAt (p k) true → s.u0 = true) ∧ (usesAt (p k) false → s.u1 = true) := by
  obtain ⟨sk, s1, _, _, _, g4, G⟩ := stepped hgt h hk hD
  have hs : s1.u0 = (useF sk (p k)).u0 ∧ s1.u1 = (useF sk (p k)).u1 := by
    unfold stepF at g4
    split at g4
    · cases g4
    · exact comes_u _ g4
  obtain ⟨w0, w1⟩ := useF_u sk (p k)
  exact ⟨fun x => G.u0 (by rw [hs.1]; exact w0.2 (.inr x)), fun x => G.u1 (by rw [hs.2]; exact w1.2 (.inr x))⟩
/-- What the document's answer knows while it goes on. -/
structure WS where
  D : Nat → Int
  mx : Int
  em : Int
  u0 : Bool
  u1 : Bool
  met : List Tri
  todo : List Tri
def useW (u : Bool) (i : Int × Int) (z : Bool) : Bool := u || decide ((i.1 = 4 ∨ i.1 = 5) ∧ (if z then i.2 = 0 else i.2 ≠ 0))
theorem useW_iff (u : Bool) (i : Int × Int) (z : Bool) : useW u i z = true ↔ u = true ∨ usesAt i z := by
  unfold useW usesAt
  rw [Bool.or_eq_true, decide_eq_true_eq]
inductive WRun (n : Nat) (p : Nat → Int × Int) : WS → Prop
  | start : WRun n p ⟨fun _ => -1, 0, 0, false, false, [], [⟨0, 0, 0⟩]⟩
  | skip {W : WS} {td : List Tri} {x : Tri} : WRun n p W → W.todo = td ++ [x] → x ∈ W.met → WRun n p { W with todo := td }
  | out {W : WS} {td : List Tri} {x : Tri} : WRun n p W → W.todo = td ++ [x] → x ∉ W.met → x.d ≤ 8 → x.e ≤ 4 → n ≤ x.at_ → WRun n p { W with todo := td, met := W.met ++ [x], mx := max W.mx x.d, em := max W.em x.e }
  | on {W : WS} {td : List Tri} {x : Tri} : WRun n p W → W.todo = td ++ [x] → x ∉ W.met → x.d ≤ 8 → x.e ≤ 4 → x.at_ < n → ¬ (0 ≤ W.D x.at_ ∧ W.D x.at_ ≠ x.d) → takesF (p x.at_).1 ≤ x.d →
      WRun n p ⟨updC W.D x.at_ x.d, max W.mx x.d, max W.em x.e, useW W.u0 (p x.at_) true, useW W.u1 (p x.at_) false, W.met ++ [x], td ++ succT n p x⟩
structure WInv (n : Nat) (p : Nat → Int × Int) (W : WS) : Prop where
  reach : ∀ x, x ∈ W.met ∨ x ∈ W.todo → Reach n p x ∧ x.at_ ≤ n ∧ 0 ≤ x.d ∧ x.d ≤ 10 ∧ 0 ≤ x.e ∧ x.e ≤ 5
  start : (⟨0, 0, 0⟩ : Tri) ∈ W.met ∨ (⟨0, 0, 0⟩ : Tri) ∈ W.todo
  ok : ∀ x ∈ W.met, x.d ≤ 8 ∧ x.e ≤ 4 ∧ (x.at_ < n → W.D x.at_ = x.d ∧ takesF (p x.at_).1 ≤ x.d ∧ ∀ y ∈ succT n p x, y ∈ W.met ∨ y ∈ W.todo)
  D : ∀ k, W.D k = -1 ∨ ∃ x ∈ W.met, x.at_ = k ∧ k < n ∧ x.d = W.D k
  mx : (∀ x ∈ W.met, x.d ≤ W.mx) ∧ (W.mx = 0 ∨ ∃ x ∈ W.met, x.d = W.mx) ∧ 0 ≤ W.mx ∧ W.mx ≤ 8
  em : (∀ x ∈ W.met, x.e ≤ W.em) ∧ (W.em = 0 ∨ ∃ x ∈ W.met, x.e = W.em) ∧ 0 ≤ W.em ∧ W.em ≤ 4
  u0 : W.u0 = true ↔ ∃ x ∈ W.met, x.at_ < n ∧ usesAt (p x.at_) true
  u1 : W.u1 = true ↔ ∃ x ∈ W.met, x.at_ < n ∧ usesAt (p x.at_) false
theorem succT_range {n : Nat} {p : Nat → Int × Int} {x y : Tri} (hx : x.at_ < n) (hd : 0 ≤ x.d ∧ x.d ≤ 8) (he : 0 ≤ x.e ∧ x.e ≤ 4) (htk : takesF (p x.at_).1 ≤ x.d) (hy : y ∈ succT n p x) : y.at_ ≤ n ∧ 0 ≤ y.d ∧ y.d ≤ 10 ∧ 0 ≤ y.e ∧ y.e ≤ 5 := by
  unfold succT at hy
  obtain ⟨t, ht, rfl⟩ := List.mem_map.1 hy
  have a := takesF_range (p x.at_).1
  have b := leavesF_range (p x.at_).1
  have c : 0 ≤ (if (p x.at_).1 = 14 then x.e + 1 else x.e) ∧ (if (p x.at_).1 = 14 then x.e + 1 else x.e) ≤ 5 := by split <;> omega
  exact ⟨nextsF_le hx _ t ht, by show 0 ≤ x.d - _ + _; omega, by show x.d - _ + _ ≤ 10; omega, c.1, c.2⟩
theorem max_attained {L : List Tri} {f : Tri → Int} {m : Int} (h : (∀ x ∈ L, f x ≤ m) ∧ (m = 0 ∨ ∃ x ∈ L, f x = m)) (x : Tri) (_ : 0 ≤ f x) : (∀ y ∈ L ++ [x], f y ≤ max m (f x)) ∧ (max m (f x) = 0 ∨ ∃ y ∈ L ++ [x], f y = max m (f x)) := by
  refine ⟨fun y hy => ?_, ?_⟩
  · rcases List.mem_append.1 hy with hy | hy
    · have := h.1 y hy; omega
    · rw [List.mem_singleton.1 hy]; omega
  · by_cases c : f x ≤ m
    · rw [show max m (f x) = m by omega]
      rcases h.2 with h | ⟨y, h1, h2⟩
      · exact .inl h
      · exact .inr ⟨y, by simp [h1], h2⟩
    · exact .inr ⟨x, by simp, by omega⟩
theorem WRun.inv {n : Nat} {p : Nat → Int × Int} {W : WS} (h : WRun n p W) : WInv n p W := by
  induction h with
  | start =>
    refine ⟨fun x hx => ?_, .inr (by simp), fun x hx => (by cases hx), fun _ => .inl rfl, ⟨fun x hx => (by cases hx), .inl rfl, Int.le_refl _, by show (0 : Int) ≤ 8; decide⟩, ⟨fun x hx => (by cases hx), .inl rfl, Int.le_refl _, by show (0 : Int) ≤ 4; decide⟩, ⟨fun h => (nomatch h), fun ⟨x, hx, _⟩ => (by cases hx)⟩, ⟨fun h => (nomatch h), fun ⟨x, hx, _⟩ => (by cases hx)⟩⟩
    rcases hx with hx | hx
    · cases hx
    · rw [List.mem_singleton.1 hx]
      exact ⟨.start, Nat.zero_le _, Int.le_refl _, by show (0 : Int) ≤ 10; decide, Int.le_refl _, by show (0 : Int) ≤ 5; decide⟩
  | @skip W td x h ht hm I =>
    have sub : ∀ y, y ∈ W.met ∨ y ∈ W.todo → y ∈ W.met ∨ y ∈ td := by
      intro y hy
      rcases hy with hy | hy
      · exact .inl hy
      · rw [ht] at hy
        rcases List.mem_append.1 hy with hy | hy
        · exact .inr hy
        · rw [List.mem_singleton.1 hy]; exact .inl hm
    refine ⟨fun y hy => I.reach y ?_, sub _ I.start, fun y hy => ?_, I.D, I.mx, I.em, I.u0, I.u1⟩
    · rcases hy with hy | hy
      · exact .inl hy
      · exact .inr (by rw [ht]; simp [hy])
    · obtain ⟨a, b, c⟩ := I.ok y hy
      exact ⟨a, b, fun hn => by obtain ⟨c1, c2, c3⟩ := c hn; exact ⟨c1, c2, fun z hz => sub z (c3 z hz)⟩⟩
  | @out W td x h ht hm hd he hn I =>
    have sub : ∀ y, y ∈ W.met ∨ y ∈ W.todo → y ∈ W.met ++ [x] ∨ y ∈ td := by
      intro y hy
      rcases hy with hy | hy
      · exact .inl (by simp [hy])
      · rw [ht] at hy
        rcases List.mem_append.1 hy with hy | hy
        · exact .inr hy
        · exact .inl (by rw [List.mem_singleton.1 hy]; simp)
    have hrx := I.reach x (.inr (by rw [ht]; simp))
    refine ⟨fun y hy => ?_, sub _ I.start, fun y hy => ?_, fun k => ?_, ?_, ?_, ?_, ?_⟩
    · rcases hy with hy | hy
      · rcases List.mem_append.1 hy with hy | hy
        · exact I.reach y (.inl hy)
        · rw [List.mem_singleton.1 hy]; exact hrx
      · exact I.reach y (.inr (by rw [ht]; simp [hy]))
    · rcases List.mem_append.1 hy with hy | hy
      · obtain ⟨a, b, c⟩ := I.ok y hy
        exact ⟨a, b, fun hn => by obtain ⟨c1, c2, c3⟩ := c hn; exact ⟨c1, c2, fun z hz => sub z (c3 z hz)⟩⟩
      · rw [List.mem_singleton.1 hy]
        exact ⟨hd, he, fun h => by omega⟩
    · rcases I.D k with h | ⟨y, h1, h2⟩
      · exact .inl h
      · exact .inr ⟨y, by simp [h1], h2⟩
    · obtain ⟨a, b⟩ := max_attained (f := Tri.d) ⟨I.mx.1, I.mx.2.1⟩ x hrx.2.2.1
      have := I.mx.2.2
      exact ⟨a, b, by show 0 ≤ max _ _; omega, by show max _ _ ≤ 8; omega⟩
    · obtain ⟨a, b⟩ := max_attained (f := Tri.e) ⟨I.em.1, I.em.2.1⟩ x hrx.2.2.2.2.1
      have := I.em.2.2
      exact ⟨a, b, by show 0 ≤ max _ _; omega, by show max _ _ ≤ 4; omega⟩
    · refine ⟨fun h => ?_, fun ⟨y, h1, h2, h3⟩ => ?_⟩
      · obtain ⟨y, h1, h2⟩ := I.u0.1 h
        exact ⟨y, by simp [h1], h2⟩
      · rcases List.mem_append.1 h1 with h1 | h1
        · exact I.u0.2 ⟨y, h1, h2, h3⟩
        · rw [List.mem_singleton.1 h1] at h2; omega
    · refine ⟨fun h => ?_, fun ⟨y, h1, h2, h3⟩ => ?_⟩
      · obtain ⟨y, h1, h2⟩ := I.u1.1 h
        exact ⟨y, by simp [h1], h2⟩
      · rcases List.mem_append.1 h1 with h1 | h1
        · exact I.u1.2 ⟨y, h1, h2, h3⟩
        · rw [List.mem_singleton.1 h1] at h2; omega
  | @on W td x h ht hm hd he hn hc htk I =>
    have hrx := I.reach x (.inr (by rw [ht]; simp))
    have sub : ∀ y, y ∈ W.met ∨ y ∈ W.todo → y ∈ W.met ++ [x] ∨ y ∈ td ++ succT n p x := by
      intro y hy
      rcases hy with hy | hy
      · exact .inl (by simp [hy])
      · rw [ht] at hy
        rcases List.mem_append.1 hy with hy | hy
        · exact .inr (by simp [hy])
        · exact .inl (by rw [List.mem_singleton.1 hy]; simp)
    have hDx : W.D x.at_ = -1 ∨ W.D x.at_ = x.d := by
      rcases I.D x.at_ with h | ⟨y, h1, _, _, h2⟩
      · exact .inl h
      · have := (I.reach y (.inl h1)).2.2.1
        by_cases c : W.D x.at_ = x.d
        · exact .inr c
        · exact absurd ⟨by omega, c⟩ hc
    refine ⟨fun y hy => ?_, sub _ I.start, fun y hy => ?_, fun k => ?_, ?_, ?_, ?_, ?_⟩
    · rcases hy with hy | hy
      · rcases List.mem_append.1 hy with hy | hy
        · exact I.reach y (.inl hy)
        · rw [List.mem_singleton.1 hy]; exact hrx
      · rcases List.mem_append.1 hy with hy | hy
        · exact I.reach y (.inr (by rw [ht]; simp [hy]))
        · exact ⟨.step hrx.1 hn htk hy, succT_range hn ⟨hrx.2.2.1, hd⟩ ⟨hrx.2.2.2.2.1, he⟩ htk hy⟩
    · rcases List.mem_append.1 hy with hy | hy
      · obtain ⟨a, b, c⟩ := I.ok y hy
        refine ⟨a, b, fun hn => ?_⟩
        obtain ⟨c1, c2, c3⟩ := c hn
        refine ⟨?_, c2, fun z hz => sub z (c3 z hz)⟩
        show updC W.D x.at_ x.d y.at_ = y.d
        unfold updC
        by_cases e : y.at_ = x.at_
        · rw [if_pos e]
          rw [e] at c1
          have := (I.reach y (.inl hy)).2.2.1
          omega
        · rw [if_neg e]; exact c1
      · rw [List.mem_singleton.1 hy]
        refine ⟨hd, he, fun _ => ⟨?_, htk, fun z hz => .inr (by simp [hz])⟩⟩
        show updC W.D x.at_ x.d x.at_ = x.d
        unfold updC; rw [if_pos rfl]
    · show updC W.D x.at_ x.d k = -1 ∨ ∃ y ∈ W.met ++ [x], y.at_ = k ∧ k < n ∧ y.d = updC W.D x.at_ x.d k
      unfold updC
      by_cases e : k = x.at_
      · subst e
        exact .inr ⟨x, by simp, rfl, hn, by rw [if_pos rfl]⟩
      · rw [if_neg e]
        rcases I.D k with h | ⟨y, h1, h2⟩
        · exact .inl h
        · exact .inr ⟨y, by simp [h1], h2⟩
    · obtain ⟨a, b⟩ := max_attained (f := Tri.d) ⟨I.mx.1, I.mx.2.1⟩ x hrx.2.2.1
      have := I.mx.2.2
      exact ⟨a, b, by show 0 ≤ max _ _; omega, by show max _ _ ≤ 8; omega⟩
    · obtain ⟨a, b⟩ := max_attained (f := Tri.e) ⟨I.em.1, I.em.2.1⟩ x hrx.2.2.2.2.1
      have := I.em.2.2
      exact ⟨a, b, by show 0 ≤ max _ _; omega, by show max _ _ ≤ 4; omega⟩
    · show useW W.u0 (p x.at_) true = true ↔ _
      rw [useW_iff, I.u0]
      refine ⟨fun h => ?_, fun ⟨y, h1, h2, h3⟩ => ?_⟩
      · rcases h with ⟨y, h1, h2⟩ | h
        · exact ⟨y, by simp [h1], h2⟩
        · exact ⟨x, by simp, hn, h⟩
      · rcases List.mem_append.1 h1 with h1 | h1
        · exact .inl ⟨y, h1, h2, h3⟩
        · rw [List.mem_singleton.1 h1] at h3; exact .inr h3
    · show useW W.u1 (p x.at_) false = true ↔ _
      rw [useW_iff, I.u1]
      refine ⟨fun h => ?_, fun ⟨y, h1, h2, h3⟩ => ?_⟩
      · rcases h with ⟨y, h1, h2⟩ | h
        · exact ⟨y, by simp [h1], h2⟩
        · exact ⟨x, by simp, hn, h⟩
      · rcases List.mem_append.1 h1 with h1 | h1
        · exact .inl ⟨y, h1, h2, h3⟩
        · rw [List.mem_singleton.1 h1] at h3; exact .inr h3
/-- With nothing left to do all that can be come to was met. -/
theorem WInv.all {n : Nat} {p : Nat → Int × Int} {W : WS} (I : WInv n p W) (ht : W.todo = []) {x : Tri} (hx : Reach n p x) : x ∈ W.met := by
  have no : ∀ y : Tri, y ∈ W.met ∨ y ∈ W.todo → y ∈ W.met := by
    intro y hy
    rcases hy with hy | hy
    · exact hy
    · rw [ht] at hy; cases hy
  induction hx with
  | start => exact no _ I.start
  | step hx hat _ hy ih => exact no _ (((I.ok _ ih).2.2 hat).2.2 _ hy)
/-- The document's answer comes to its end just where the check has one, and says the same. -/
theorem tell_end {n : Nat} {p : Nat → Int × Int} (hgt : ∀ k, k < n → ∀ t ∈ nextsF n k (p k), k < t) {W : WS} (h : WRun n p W) (ht : W.todo = []) :
    ∃ s, checkF n p n = some s ∧ (∀ k, k < n → W.D k = s.D k) ∧ W.mx = s.mx ∧ W.em = s.em ∧ W.u0 = s.u0 ∧ W.u1 = s.u1 := by
  have I := h.inv
  obtain ⟨c1, c2⟩ := check_comp (n := n) (p := p) (Nat.le_refl n)
  cases hc : checkF n p n with
  | none =>
    exfalso
    rcases c1 hc with ⟨x, hx, hb⟩ | ⟨x, y, hx, hy, e, hn, hne⟩
    · obtain ⟨a, b, c⟩ := I.ok x (I.all ht hx)
      rcases hb with hb | hb | ⟨hb1, hb2⟩
      · omega
      · omega
      · have := (c hb1).2.1; omega
    · obtain ⟨_, _, a⟩ := I.ok x (I.all ht hx)
      obtain ⟨_, _, b⟩ := I.ok y (I.all ht hy)
      have a1 := (a hn).1
      have b1 := (b (by omega)).1
      rw [← e] at b1
      omega
  | some s =>
    have C := c2 s hc
    have inv := checkF_inv (Nat.le_refl n) hc
    have S := fun x (hx : Reach n p x) => sound hgt hc hx
    obtain ⟨v0, v1⟩ := check_u (Nat.le_refl n) hc
    have D : ∀ k, k < n → W.D k = s.D k := by
      intro k hk
      by_cases hs : s.D k = -1
      · rcases I.D k with h | ⟨x, h1, h2, h3, h4⟩
        · rw [h, hs]
        · have := ((S x (I.reach x (.inl h1)).1).in_ (by omega)).1
          have := (I.reach x (.inl h1)).2.2.1
          rw [h2] at *
          omega
      · have := ((I.ok _ (I.all ht (C.d k hs))).2.2 hk).1
        exact this
    refine ⟨s, rfl, D, ?_, ?_, ?_, ?_⟩
    · obtain ⟨x, h1, h2⟩ := C.mx
      have a := I.mx.1 x (I.all ht h1)
      have := inv.mx
      rcases I.mx.2.1 with b | ⟨y, b1, b2⟩
      · omega
      · have := (S y (I.reach y (.inl b1)).1).mx
        omega
    · obtain ⟨x, h1, h2⟩ := C.em
      have a := I.em.1 x (I.all ht h1)
      have := inv.em
      rcases I.em.2.1 with b | ⟨y, b1, b2⟩
      · omega
      · have := (S y (I.reach y (.inl b1)).1).em
        omega
    · rw [Bool.eq_iff_iff, I.u0]
      refine ⟨fun ⟨x, h1, h2, h3⟩ => ?_, fun h => ?_⟩
      · have := ((S x (I.reach x (.inl h1)).1).in_ h2).1
        have := (I.reach x (.inl h1)).2.2.1
        exact (check_u' hgt hc h2 (by omega)).1 h3
      · obtain ⟨k, k1, k2, k3⟩ := v0 h
        exact ⟨_, I.all ht (C.d k k2), k1, k3⟩
    · rw [Bool.eq_iff_iff, I.u1]
      refine ⟨fun ⟨x, h1, h2, h3⟩ => ?_, fun h => ?_⟩
      · have := ((S x (I.reach x (.inl h1)).1).in_ h2).1
        have := (I.reach x (.inl h1)).2.2.1
        exact (check_u' hgt hc h2 (by omega)).2 h3
      · obtain ⟨k, k1, k2, k3⟩ := v1 h
        exact ⟨_, I.all ht (C.d k k2), k1, k3⟩
/-- Where the document's answer breaks off the check has none. -/
theorem tell_break {n : Nat} {p : Nat → Int × Int} (hgt : ∀ k, k < n → ∀ t ∈ nextsF n k (p k), k < t) {W : WS} (h : WRun n p W) {x : Tri} (hx : x ∈ W.todo) (hb : 8 < x.d ∨ 4 < x.e ∨ (x.at_ < n ∧ 0 ≤ W.D x.at_ ∧ W.D x.at_ ≠ x.d) ∨ (x.at_ < n ∧ x.d < takesF (p x.at_).1)) : checkF n p n = none := by
  have I := h.inv
  cases hc : checkF n p n with
  | none => rfl
  | some s =>
    exfalso
    have S := sound hgt hc (I.reach x (.inr hx)).1
    rcases hb with hb | hb | ⟨h1, h2, h3⟩ | ⟨h1, h2⟩
    · have := S.d; omega
    · have := S.e; omega
    · rcases I.D x.at_ with h | ⟨y, g1, g2, g3, g4⟩
      · omega
      · have a := ((sound hgt hc (I.reach y (.inl g1)).1).in_ (by omega)).1
        have b := (S.in_ h1).1
        rw [g2] at a
        omega
    · have := (S.in_ h1).2.2; omega
/-- All that may be met, and how many of these were not. -/
def grid (n : Nat) : List Tri := (List.range (n + 1)).flatMap fun a => (List.range 11).flatMap fun d : Nat => (List.range 6).map fun e : Nat => ⟨a, (d : Int), (e : Int)⟩
theorem mem_grid {n : Nat} {x : Tri} (h : x.at_ ≤ n ∧ 0 ≤ x.d ∧ x.d ≤ 10 ∧ 0 ≤ x.e ∧ x.e ≤ 5) : x ∈ grid n := by
  obtain ⟨a, d, e⟩ := x
  simp only at h
  unfold grid
  rw [List.mem_flatMap]
  refine ⟨a, List.mem_range.2 (by omega), ?_⟩
  rw [List.mem_flatMap]
  refine ⟨d.toNat, List.mem_range.2 (by omega), ?_⟩
  rw [List.mem_map]
  refine ⟨e.toNat, List.mem_range.2 (by omega), ?_⟩
  rw [Int.toNat_of_nonneg h.2.1, Int.toNat_of_nonneg h.2.2.2.1]
def left (n : Nat) (met : List Tri) : Nat := ((grid n).filter fun x => decide (x ∉ met)).length
theorem left_less (L met : List Tri) (x : Tri) (hx : x ∈ L) (hm : x ∉ met) : (L.filter fun y => decide (y ∉ met ++ [x])).length < (L.filter fun y => decide (y ∉ met)).length := by
  induction L with
  | nil => cases hx
  | cons z L ih =>
    have mono : (L.filter fun y => decide (y ∉ met ++ [x])).length ≤ (L.filter fun y => decide (y ∉ met)).length := by
      clear ih hx
      induction L with
      | nil => exact Nat.le_refl _
      | cons u L ih2 =>
        simp only [List.filter_cons]
        by_cases c : u ∈ met
        · simp [c]; simpa using ih2
        · by_cases c2 : u = x
          · simp [c2, hm]; have := ih2; simp at this; omega
          · simp [c, c2]; simpa using ih2
    simp only [List.filter_cons]
    by_cases c : z = x
    · subst c
      simp [hm]
      have := mono
      simp at this
      omega
    · have hx' : x ∈ L := by
        rcases List.mem_cons.1 hx with h | h
        · exact absurd h.symm c
        · exact h
      have := ih hx'
      by_cases c2 : z ∈ met
      · simp [c2]; simpa using this
      · simp [c2, c]; simpa using this
theorem left_step {n : Nat} {p : Nat → Int × Int} {W : WS} (h : WRun n p W) {x : Tri} (hx : x ∈ W.todo) (hm : x ∉ W.met) : left n (W.met ++ [x]) < left n W.met :=
  left_less _ _ _ (mem_grid (h.inv.reach x (.inr hx)).2) hm
theorem succT_len (n : Nat) (p : Nat → Int × Int) (x : Tri) : (succT n p x).length ≤ 2 := by
  unfold succT nextsF
  rw [List.length_map]
  split
  · simp
  · split
    · simp
    · split <;> simp
end Go.Proofs.YtfakgidimekikaaGreat
