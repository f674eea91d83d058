/- Texts merged into one, for the number of files a claim may have: W, Mul, Repeat, Effects, Code, Walk, Next, Step, Arr, Check, ChkUse, Del, ArrEq. -/
import Derived.Test.YthfibggbipkmfaaGreatDX1
import Derived.BigQuiet
import Derived.BigRegion
import Derived.ChangeKeysEq
import Derived.Deep.AppendLies
import Derived.Deep.CutBlock
import Derived.Deep.DeepCutAuto
import Derived.Deep.Draws
import Derived.Deep.QuietTactic
import Derived.Deep.RegionLaw
import Derived.Deep.RegionWith
import Derived.Laws.CopyOwn
import Derived.Laws.CopyRow
import Derived.Lib.Hide
import Derived.Maps.AppendAt
import Derived.StillTailTactics
import Derived.Test.YthfibggbipkmfaaGreatRows
import Derived.WalkKit
import Derived.WalkLawsBesides
import Derived.WalkSpells
import Derived.WideMake
namespace Go.Fb
open Go.RowKit

/-- A frame: below block number B, but for the blocks in L, nothing has turned. -/
structure Fr (B : Nat) (L : List Nat) (w w' : World) : Prop where
  os : w'.os = w.os
  tape : w'.tape = w.tape
  output : w'.output = w.output
  size : w.heap.size ≤ w'.heap.size
  block : ∀ k, k < B → k ∉ L → w'.heap[k]? = w.heap[k]?

theorem Fr.refl (B : Nat) (L : List Nat) (w : World) : Fr B L w w := ⟨rfl, rfl, rfl, Nat.le_refl _, fun _ _ _ => rfl⟩
theorem Fr.trans {B : Nat} {L : List Nat} {a b c : World} (h : Fr B L a b) (k : Fr B L b c) : Fr B L a c :=
  ⟨k.os.trans h.os, k.tape.trans h.tape, k.output.trans h.output, Nat.le_trans h.size k.size, fun i hi hn => (k.block i hi hn).trans (h.block i hi hn)⟩
theorem Fr.mono {B B' : Nat} {L L' : List Nat} {w w' : World} (h : Fr B L w w') (hB : B' ≤ B) (hL : ∀ k, k ∈ L → k < B' → k ∈ L') : Fr B' L' w w' :=
  ⟨h.os, h.tape, h.output, h.size, fun k hk hn => h.block k (Nat.lt_of_lt_of_le hk hB) (fun hm => hn (hL k hm hk))⟩
theorem Fr.drew {B : Nat} {L : List Nat} {a w : World} (h : Fr B L a w) : Fr B L a w.drew := ⟨h.os, h.tape, h.output, h.size, h.block⟩
theorem Fr.drewN {B : Nat} {L : List Nat} {a w : World} (h : Fr B L a w) (n : Nat) : Fr B L a (w.drewN n) := ⟨h.os, h.tape, h.output, h.size, h.block⟩
theorem Fr.alloc {B : Nat} {L : List Nat} {a w : World} (h : Fr B L a w) (hB : B ≤ w.heap.size) (o : Obj) : Fr B L a (w.alloc o) :=
  h.trans ⟨rfl, rfl, rfl, by simp, fun k hk _ => Below.heap_alloc _ _ _ (by omega)⟩
theorem Fr.setCell {B : Nat} {L : List Nat} {a w : World} (h : Fr B L a w) {p : Addr} (hp : B ≤ p.block ∨ p.block ∈ L) (u : Value) : Fr B L a (w.setCell p u) :=
  h.trans ⟨rfl, rfl, rfl, by simp [World.setCell], fun k hk hn => Below.heap_setCell _ _ _ _ (by
    rintro rfl
    rcases hp with hp | hp
    · omega
    · exact hn hp)⟩
theorem Fr.grown {B : Nat} {L : List Nat} {a w w' : World} {row : Option Nat} (h : Fr B L a w) (hg : w.grownBy w' row) (hB : B ≤ w.heap.size) (hr : ∀ k, row = some k → B ≤ k ∨ k ∈ L) : Fr B L a w' :=
  h.trans ⟨hg.os, hg.tape, hg.output, hg.size, fun k hk hn => hg.block k (by omega) (fun e => by
    rcases hr k e.symm with h | h
    · omega
    · exact hn h)⟩
theorem Fr.of_below {B : Nat} {L : List Nat} {w w' : World} (h : Below B w w') : Fr B L w w' := ⟨h.os, h.tape, h.output, h.size, fun k hk _ => h.block k hk⟩
theorem Fr.below {B : Nat} {w w' : World} (h : Fr B [] w w') : Below B w w' := ⟨h.os, h.tape, h.output, h.size, fun k hk => h.block k hk (by simp)⟩
theorem _root_.Go.RowKit.Below.drewN {B : Nat} {a w : World} (h : Below B a w) (n : Nat) : Below B a (w.drewN n) := ⟨h.os, h.tape, h.output, h.size, h.block⟩
theorem Fr.cell {B : Nat} {L : List Nat} {w w' : World} (h : Fr B L w w') {p : Addr} (hp : p.block < B) (hn : p.block ∉ L) : w'.cell? p = w.cell? p := World.cell?_of_block (w := w) (h.block p.block hp hn)
theorem Fr.frozen {B : Nat} {L : List Nat} {w w' : World} (h : Fr B L w w') {p : Addr} (hp : p.block < B) (hn : p.block ∉ L) : w'.frozen? p = w.frozen? p := World.frozen?_of_block (w := w) (h.block p.block hp hn)

/-- A block that is known whole, no cell of it frozen. -/
def Blk (w : World) (g : Nat) (t : TypeId) (cs : Array Value) : Prop := w.heap[g]? = some (.cells cs t (0, 0))
section
variable {w w' : World} {g : Nat} {t : TypeId} {cs : Array Value}
theorem Blk.lt (h : Blk w g t cs) : g < w.heap.size := by
  rcases Nat.lt_or_ge g w.heap.size with hlt | hge
  · exact hlt
  · unfold Blk at h; rw [Array.getElem?_eq_none hge] at h; cases h
theorem Blk.cell (h : Blk w g t cs) (i : Nat) : w.cell? ⟨g, i, none⟩ = cs[i]? := cell_of_row w g i cs t (0, 0) h
theorem Blk.frozen (h : Blk w g t cs) (i : Nat) : w.frozen? ⟨g, i, none⟩ = false := by
  unfold Blk at h
  simp [World.frozen?, h]
theorem Blk.new (w : World) (t : TypeId) (cs : Array Value) : Blk (w.alloc (.cells cs t)) w.heap.size t cs := heap_alloc_new w _
theorem Blk.drew (h : Blk w g t cs) : Blk w.drew g t cs := h
theorem Blk.drewN (h : Blk w g t cs) (n : Nat) : Blk (w.drewN n) g t cs := h
theorem Blk.alloc (h : Blk w g t cs) (o : Obj) : Blk (w.alloc o) g t cs := (Below.heap_alloc w o g h.lt).trans h
theorem Blk.set_ (h : Blk w g t cs) (i : Nat) (u : Value) : Blk (w.setCell ⟨g, i, none⟩ u) g t (cs.setIfInBounds i u) := by
  unfold Blk at h ⊢
  simp [World.setCell, Array.getElem?_modify, h]
theorem Blk.far (h : Blk w g t cs) {p : Addr} (hp : g ≠ p.block) (u : Value) : Blk (w.setCell p u) g t cs := (Below.heap_setCell w p u g hp).trans h
theorem Blk.fr {B : Nat} {L : List Nat} (h : Blk w g t cs) (hb : Fr B L w w') (hg : g < B) (hn : g ∉ L) : Blk w' g t cs := (hb.block g hg hn).trans h
theorem Blk.below {B : Nat} (h : Blk w g t cs) (hb : Below B w w') (hg : g < B) : Blk w' g t cs := (hb.block g hg).trans h
theorem Blk.grown {row : Option Nat} (h : Blk w g t cs) (hb : w.grownBy w' row) (hg : some g ≠ row) : Blk w' g t cs := (hb.block g h.lt hg).trans h
theorem Blk.ne_ {g' : Nat} {t' : TypeId} {cs' : Array Value} (h : Blk w g t cs) (h' : Blk w g' t' cs') (hne : t ≠ t') : g ≠ g' := by
  rintro rfl
  unfold Blk at h h'
  rw [h] at h'
  injection h' with h'
  injection h' with _ ht
  exact hne ht
end

/-- An owned row reads on over a frame that leaves its block alone. -/
theorem ownsRow_fr {w w' : World} {base e size n : Nat} {v : Value} {xs : List Value} {B : Nat} {L : List Nat} (h : w.ownsRow base e size v n xs) (hb : Fr B L w w') (hv : ∀ k, v.ownBlock = some k → k < B ∧ k ∉ L) : w'.ownsRow base e size v n xs := by
  refine ⟨h.1, ?_⟩
  rcases h.2 with hn | ⟨g, cap, cur, rfl, hbg, hgg, rest⟩
  · exact .inl hn
  · obtain ⟨h1, h2⟩ := hv g rfl
    exact .inr ⟨g, cap, cur, rfl, hbg, (hb.block g h1 h2).trans hgg, rest⟩
/-- An owned row asks less of a lower base. -/
theorem ownsRow_base {w : World} {base base' e size n : Nat} {v : Value} {xs : List Value} (h : w.ownsRow base e size v n xs) (hb : base' ≤ base) : w.ownsRow base' e size v n xs := by
  refine ⟨h.1, ?_⟩
  rcases h.2 with hn | ⟨g, cap, cur, rfl, hbg, hgg, rest⟩
  · exact .inl hn
  · exact .inr ⟨g, cap, cur, rfl, by omega, hgg, rest⟩
/-- What an owned row's value looks like, whatever it has. -/
theorem ownsRow_shape {w : World} {base e size n : Nat} {v : Value} {xs : List Value} (h : w.ownsRow base e size v n xs) :
    ∃ A c, v = .slice A n c ∧ (∀ ad, A = some ad → ad.off = 0 ∧ ad.spot = none ∧ base ≤ ad.block ∧ ad.block < w.heap.size) ∧ n ≤ c ∧ (A = none → n = 0) := by
  rcases h.2 with ⟨rfl, rfl⟩ | ⟨g, cap, cur, rfl, hbg, hgg, hnc, _⟩
  · exact ⟨none, 0, rfl, by simp, Nat.le_refl _, fun _ => rfl⟩
  · refine ⟨some ⟨g, 0, none⟩, cap, rfl, ?_, hnc, by simp⟩
    rintro ad hA
    injection hA with hA
    subst hA
    exact ⟨rfl, rfl, hbg, (Array.getElem?_eq_some_iff.1 hgg).1⟩

theorem block_of_add (a : Addr) (n : Nat) : (a.add n).block = a.block := by unfold Addr.add; split <;> rfl
/-- The slice '.slice A n c' (any c) holds the cells xs, 'size' for each element, in a block below B. -/
def Reads (w : World) (B size : Nat) (A : Option Addr) (n : Nat) (xs : List Value) : Prop :=
  xs.length = n * size ∧ (0 < n → ∃ b off, A = some ⟨b, off, none⟩ ∧ b < B ∧ ∀ j u, xs[j]? = some u → w.cell? ⟨b, off + j, none⟩ = some u)
section
variable {w w' : World} {B B' size n : Nat} {A : Option Addr} {xs : List Value}
theorem Reads.none_ : Reads w B size A 0 [] := ⟨by simp, fun h => absurd h (by omega)⟩
theorem Reads.keep (h : Reads w B size A n xs) (hk : ∀ p : Addr, p.block < B → w'.cell? p = w.cell? p) : Reads w' B size A n xs :=
  ⟨h.1, fun hn => by
    obtain ⟨b, off, e, hb, hc⟩ := h.2 hn
    exact ⟨b, off, e, hb, fun j u hu => (hk _ hb).trans (hc j u hu)⟩⟩
theorem Reads.more (h : Reads w B size A n xs) (hB : B ≤ B') : Reads w B' size A n xs :=
  ⟨h.1, fun hn => by
    obtain ⟨b, off, e, hb, hc⟩ := h.2 hn
    exact ⟨b, off, e, by omega, hc⟩⟩
theorem Reads.fr {L : List Nat} (h : Reads w B size A n xs) (hb : Fr B' L w w') (hB : B ≤ B') (hL : ∀ k ∈ L, B ≤ k) : Reads w' B size A n xs :=
  h.keep fun p hp => hb.cell (by omega) (fun hm => by have := hL _ hm; omega)
theorem Reads.frL {L : List Nat} (h : Reads w B size A n xs) (hb : Fr B' L w w') (hB : B ≤ B') (hL : 0 < n → ∀ ad, A = some ad → ad.block ∉ L) : Reads w' B size A n xs :=
  ⟨h.1, fun hn => by
    obtain ⟨b, off, e, hb', hc⟩ := h.2 hn
    exact ⟨b, off, e, hb', fun j u hu => (hb.cell (p := ⟨b, off + j, none⟩) (Nat.lt_of_lt_of_le hb' hB) (hL hn ⟨b, off, none⟩ e)).trans (hc j u hu)⟩⟩
theorem Reads.apart (h : Reads w B size A n xs) {g : Nat} (hg : B ≤ g) : 0 < n → ∀ ad, A = some ad → ad.block ≠ g := by
  rintro hn ad rfl
  obtain ⟨b, off, e, hb, _⟩ := h.2 hn
  injection e with e
  subst e
  show b ≠ g
  omega
theorem Reads.below (h : Reads w B size A n xs) (hb : Below B w w') : Reads w' B size A n xs := h.keep fun _ hp => hb.cell hp
theorem Reads.one {k : Nat} (h : Reads w B 1 A n xs) (hk : k < n) : ∃ b off u, A = some ⟨b, off, none⟩ ∧ b < B ∧ xs[k]? = some u ∧ w.cell? ⟨b, off + k, none⟩ = some u := by
  obtain ⟨b, off, e, hb, hc⟩ := h.2 (by omega)
  have hl : k < xs.length := by have := h.1; omega
  exact ⟨b, off, xs[k], e, hb, List.getElem?_eq_getElem hl, hc k _ (List.getElem?_eq_getElem hl)⟩
theorem Reads.of_own {base : Nat} {e : TypeId} {c : Nat} (h : w.ownsRow base e size (.slice A n c) n xs) : Reads w w.heap.size size A n xs := by
  refine ⟨h.1, fun hn => ?_⟩
  obtain ⟨g, cap, hv, _, hlt⟩ := h.form hn
  have hA : A = some ⟨g, 0, none⟩ := by injection hv
  subst hA
  refine ⟨g, 0, rfl, hlt, fun j u hu => ?_⟩
  have := h.cells (g := g) rfl j u hu
  unfold Addr.add at this
  split at this
  · rename_i h0; simpa [h0] using this
  · simpa using this
theorem Reads.of_blk {g : Nat} {t : TypeId} {cs : Array Value} {m : Nat} (h : Blk w g t cs) (hm : cs.size = m * size) : Reads w (g + 1) size (some ⟨g, 0, none⟩) m cs.toList :=
  ⟨by simpa using hm, fun _ => ⟨g, 0, rfl, by omega, fun j u hu => by rw [h.cell]; simpa using hu⟩⟩
end

/-- What the laws on append ask of a slice type t with elements e of so many cells and bytes. -/
structure SliceTy (P : Program) (t e size bytes : Nat) : Prop where
  ht : P.underlying t = some (.slice e)
  hi : ∃ i z, P.info? e = some i ∧ i.zero = some z ∧ i.size = size ∧ i.bytes = bytes ∧ z.cells.size = size
  pos : 0 < size
theorem SliceTy.mk' {P : Program} {t e size bytes : Nat} {z : Value} (ht : P.underlying t = some (.slice e)) (h : (P.info? e).map (fun i => (i.zero, i.size, i.bytes)) = some (some z, size, bytes)) (hz : z.cells.size = size) (hs : 0 < size) : SliceTy P t e size bytes := by
  obtain ⟨i, h1, h2, h3, h4⟩ := info_parts h
  exact ⟨ht, ⟨i, z, h1, h2, h3, h4, hz⟩, hs⟩

section
variable {P : Program} (w : World)
theorem run_append_of_nil (base : Nat) (t ty e : TypeId) (i : TypeInfo) (size : Nat) (ht : P.underlying t = some (.slice e)) (hi : P.info? e = some i)
    (v : Value) (n : Nat) (xs : List Value) (hown : w.ownsRow base e size v n xs) (c : Nat) : (Builtin.append_ #[t, t] ty #[v, .slice none 0 c]).run P w = .ok v w := by
  rcases hown.2 with ⟨rfl, rfl⟩ | ⟨g, cap, cur, rfl, _, _, hnc, _⟩
  · simp [Builtin.append_, run_underlying ht, sizeOf, typeInfo, hi, Builtin.lenOf, Builtin.firstCells]
  · simp [Builtin.append_, run_underlying ht, sizeOf, typeInfo, hi, Builtin.lenOf, Builtin.firstCells, hnc, storeCells]

/-- append onto an owned row, the source nil, empty or not: the new value written out, and where it lies. -/
theorem run_app {t e size bytes : Nat} (T : SliceTy P t e size bytes) (ty : TypeId) (base : Nat) (v : Value) (n : Nat) (xs : List Value) (hown : w.ownsRow base e size v n xs)
    (B : Nat) (A : Option Addr) (m c : Nat) (news : List Value) (hr : Reads w B size A m news) (h1 : ∀ u ∈ news, u.oneCell' = true)
    (h63 : n + m ≤ 1073741824) (hb : bytes ≤ 131072) (hbase : base ≤ w.heap.size) :
    ∃ A' c' w', (Builtin.append_ #[t, t] ty #[v, .slice A m c]).run P w = .ok (.slice A' (n + m) c') w' ∧ w'.ownsRow base e size (.slice A' (n + m) c') (n + m) (xs ++ news) ∧ w.grownBy w' v.ownBlock ∧
      (Value.ownBlock (.slice A' (n + m) c') = v.ownBlock ∨ Value.ownBlock (.slice A' (n + m) c') = some w.heap.size) := by
  obtain ⟨i, z, hi, hz, hsize, hby, hzs⟩ := T.hi
  have hml : n + m ≤ maxLen := by unfold maxLen; omega
  have hbytes : (n + m) * bytes ≤ 140737488355328 := Nat.le_trans (Nat.mul_le_mul h63 hb) (by decide)
  have hcells : ∀ ad, A = some ad → ∀ j u, news[j]? = some u → w.cell? (ad.add j) = some u := by
    rintro ad rfl j u hu
    rcases Nat.eq_zero_or_pos m with h0 | h0
    · subst h0
      have hn : news = [] := List.eq_nil_of_length_eq_zero (by simpa using hr.1)
      subst hn
      simp at hu
    · obtain ⟨b, off, h, _, hc⟩ := hr.2 h0
      injection h with h
      subst h
      have : (⟨b, off, none⟩ : Addr).add j = ⟨b, off + j, none⟩ := by unfold Addr.add; split <;> simp_all
      rw [this]
      exact hc j u hu
  have key : ∃ v' w', (Builtin.append_ #[t, t] ty #[v, .slice A m c]).run P w = .ok v' w' ∧ w'.ownsRow base e size v' (n + m) (xs ++ news) ∧ w.grownBy w' v.ownBlock ∧ (v'.ownBlock = v.ownBlock ∨ v'.ownBlock = some w.heap.size) := by
    rcases A with _ | ad
    · have hm : m = 0 := by
        rcases Nat.eq_zero_or_pos m with h0 | h0
        · exact h0
        · obtain ⟨b, off, h, _⟩ := hr.2 h0
          cases h
      subst hm
      have hn : news = [] := List.eq_nil_of_length_eq_zero (by simpa using hr.1)
      subst hn
      exact ⟨v, w, run_append_of_nil w base t ty e i size T.ht hi v n xs hown c, by simpa using hown, ⟨rfl, rfl, rfl, Nat.le_refl _, fun _ _ _ => rfl⟩, .inl rfl⟩
    · obtain ⟨v', w', hrun, h2, h3, _, h5⟩ := run_append_own_at (P := P) w base t ty e i z size bytes T.ht hi hz hsize hby hzs T.pos v n xs hown ad m c news hr.1 (hcells ad rfl) h1 hml hbytes hbase
      exact ⟨v', w', hrun, h2, h3, h5⟩
  obtain ⟨v', w', hrun, h2, h3, h4⟩ := key
  obtain ⟨A', c', rfl, _⟩ := ownsRow_shape h2
  exact ⟨A', c', w', hrun, h2, h3, h4⟩

theorem wp_app {o : Oper} {a : Act} {K : Act → World → Prop} {Q : Exit → Act → World → Prop} (s x : Operand) {t e size bytes : Nat} (T : SliceTy P t e size bytes)
    (ho : o.op = .call { callee := .builtin .append, args := #[s, x], argTypes := #[t, t] })
    (base : Nat) (v : Value) (n : Nat) (xs : List Value) (hs : a.eval s = v) (hown : w.ownsRow base e size v n xs)
    (B : Nat) (A : Option Addr) (m c : Nat) (news : List Value) (hx : a.eval x = .slice A m c) (hr : Reads w B size A m news) (h1 : ∀ u ∈ news, u.oneCell' = true)
    (h63 : n + m ≤ 1073741824) (hb : bytes ≤ 131072) (hbase : base ≤ w.heap.size)
    (h : ∀ A' c' w', w'.ownsRow base e size (.slice A' (n + m) c') (n + m) (xs ++ news) → w.grownBy w' v.ownBlock →
      (Value.ownBlock (.slice A' (n + m) c') = v.ownBlock ∨ Value.ownBlock (.slice A' (n + m) c') = some w.heap.size) → K (a.put o.dst (.slice A' (n + m) c')) w') : o.wp P a w K Q := by
  obtain ⟨A', c', w', hrun, h2, h3, h4⟩ := run_app (P := P) w T o.type base v n xs hown B A m c news hr h1 h63 hb hbase
  unfold Oper.wp execOp
  simp only [ho, resolve, invoke, builtin, Sem.run_bind, Sem.run_pure, Result.andThen_ok, List.map_toArray, List.map_cons, List.map_nil, hs, hx, hrun]
  exact h A' c' w' h2 h3 h4

theorem wpList_app {ops : Array Oper} {rest : List Oper} {o : Oper} {a : Act} {Q : Exit → Act → World → Prop} (hgd : o.guard = none) (s x : Operand) {t e size bytes : Nat} (T : SliceTy P t e size bytes)
    (ho : o.op = .call { callee := .builtin .append, args := #[s, x], argTypes := #[t, t] })
    (base : Nat) (v : Value) (n : Nat) (xs : List Value) (hs : a.eval s = v) (hown : w.ownsRow base e size v n xs)
    (B : Nat) (A : Option Addr) (m c : Nat) (news : List Value) (hx : a.eval x = .slice A m c) (hr : Reads w B size A m news) (h1 : ∀ u ∈ news, u.oneCell' = true)
    (h63 : n + m ≤ 1073741824) (hb : bytes ≤ 131072) (hbase : base ≤ w.heap.size)
    (h : ∀ A' c' w', w'.ownsRow base e size (.slice A' (n + m) c') (n + m) (xs ++ news) → w.grownBy w' v.ownBlock →
      (Value.ownBlock (.slice A' (n + m) c') = v.ownBlock ∨ Value.ownBlock (.slice A' (n + m) c') = some w.heap.size) → wpList P ops Q rest (a.put o.dst (.slice A' (n + m) c')) w') : wpList P ops Q (o :: rest) a w :=
  wpList_plain hgd fun _ hK => wp_app w s x T ho base v n xs hs hown B A m c news hx hr h1 h63 hb hbase fun A' c' w' h2 h3 h4 => hK _ _ (h A' c' w' h2 h3 h4)
end

/-- An append whose source is the literal that was laid just ahead of it. -/
theorem wpList_app_lit {P : Program} (w : World) {ops : Array Oper} {rest : List Oper} {o : Oper} {a : Act} {Q : Exit → Act → World → Prop} (hgd : o.guard = none) (s x : Operand) {t e size bytes : Nat} (T : SliceTy P t e size bytes)
    (ho : o.op = .call { callee := .builtin .append, args := #[s, x], argTypes := #[t, t] })
    (base : Nat) (v : Value) (n : Nat) (xs : List Value) (hs : a.eval s = v) (hown : w.ownsRow base e size v n xs)
    (m c : Nat) (news : Array Value) (hx : a.eval x = .slice (some ⟨w.heap.size, 0, none⟩) m c) (hm : news.size = m * size) (h1 : ∀ u ∈ news.toList, u.oneCell' = true)
    (h63 : n + m ≤ 1073741824) (hb : bytes ≤ 131072) (hbase : base ≤ w.heap.size)
    (h : ∀ A' c' w', w'.ownsRow base e size (.slice A' (n + m) c') (n + m) (xs ++ news.toList) → (w.alloc (.cells news e)).grownBy w' v.ownBlock →
      (Value.ownBlock (.slice A' (n + m) c') = v.ownBlock ∨ Value.ownBlock (.slice A' (n + m) c') = some (w.heap.size + 1)) → wpList P ops Q rest (a.put o.dst (.slice A' (n + m) c')) w') : wpList P ops Q (o :: rest) a (w.alloc (.cells news e)) :=
  wpList_app _ hgd s x T ho base v n xs hs (hown.alloc _) (w.heap.size + 1) _ m c news.toList hx (Reads.of_blk (Blk.new w e news) hm) h1 h63 hb (by simp; omega) (fun A' c' w' h2 h3 h4 => h A' c' w' h2 h3 (by simpa using h4))

/-- An owned row stays owned while a cell of another block is written. -/
theorem ownsRow_setCell_other {w : World} {base e size n : Nat} {v : Value} {xs : List Value} (h : w.ownsRow base e size v n xs) {p : Addr} (hp : v.ownBlock ≠ some p.block) (u : Value) : (w.setCell p u).ownsRow base e size v n xs := by
  refine ⟨h.1, ?_⟩
  rcases h.2 with hn | ⟨g, cap, cur, rfl, hbg, hgg, rest⟩
  · exact .inl hn
  · exact .inr ⟨g, cap, cur, rfl, hbg, (Below.heap_setCell w p u g (fun e => hp (by simp [Value.ownBlock, e]))).trans hgg, rest⟩
/-- A block of another element type is not the row's own. -/
theorem Blk.ne_own {w : World} {g t : Nat} {cs : Array Value} {base e size n : Nat} {v : Value} {xs : List Value} (hb : Blk w g t cs) (h : w.ownsRow base e size v n xs) (hne : e ≠ t) : some g ≠ v.ownBlock := by
  intro he
  rcases h.2 with ⟨rfl, _⟩ | ⟨g', cap, cur, rfl, _, hgg, _⟩
  · cases he
  · have he' : g = g' := by simpa [Value.ownBlock] using he
    subst he'
    unfold Blk at hb
    rw [hgg] at hb
    injection hb with hb
    injection hb with _ ht
    exact hne ht
/-- A string's bytes as numbers. -/
def bl (s : ByteArray) : List Int := s.data.toList.map fun b => (b.toNat : Int)
theorem Fr.of_app {w w' : World} {o : Obj} {base : Nat} {v : Value} {e size n : Nat} {xs : List Value} (hg : (w.alloc o).grownBy w' v.ownBlock) (hown : w.ownsRow base e size v n xs) (hbase : base ≤ w.heap.size) : Fr base [] w w' :=
  (((Fr.refl base [] w).alloc hbase o).grown hg (by simp; omega) (fun k hk => .inl (hown.lt k hk).1))

end Go.Fb
namespace Go.Proofs.YthfibggbipkmfaaGreat
open Go.RowKit Go.Fb
set_option maxRecDepth 100000 in
set_option maxHeartbeats 4000000 in
theorem mul64_any (n : Nat) (hn : n ≤ 24) (w : World) : Calls Tryz.prog 180 #[.int .u64 1, .int .u64 n] w fun e w' => e = .returned (.tuple #[.int .u64 0, .int .u64 n]) ∧ w = w' := by
  have h : n = 0 ∨ n = 1 ∨ n = 2 ∨ n = 3 ∨ n = 4 ∨ n = 5 ∨ n = 6 ∨ n = 7 ∨ n = 8 ∨ n = 9 ∨ n = 10 ∨ n = 11 ∨ n = 12 ∨ n = 13 ∨ n = 14 ∨ n = 15 ∨ n = 16 ∨ n = 17 ∨ n = 18 ∨ n = 19 ∨ n = 20 ∨ n = 21 ∨ n = 22 ∨ n = 23 ∨ n = 24 := by omega
  rcases h with rfl | rfl | rfl | rfl | rfl | rfl | rfl | rfl | rfl | rfl | rfl | rfl | rfl | rfl | rfl | rfl | rfl | rfl | rfl | rfl | rfl | rfl | rfl | rfl | rfl
  all_goals
    go_enter Tryz.func180, Tryz.ntmps180
    go_wp2_with fail
    go_ret2
    exact ⟨rfl, rfl⟩
theorem mul_any (n : Nat) (hn : n ≤ 24) (w : World) : Calls Tryz.prog 170 #[.int .u64 1, .int .u64 n] w fun e w' => e = .returned (.tuple #[.int .u64 0, .int .u64 n]) ∧ w = w' := by
  have H := Lib.hid (mul64_any n hn)
  go_enter Tryz.func170, Tryz.ntmps170
  go_wp2_with fail
  refine (H.out _).mono ?_
  rintro e w' ⟨rfl, rfl⟩
  go_wp2_with fail
  go_ret2
  exact ⟨rfl, rfl⟩
end Go.Proofs.YthfibggbipkmfaaGreat
namespace Go.Proofs.YthfibggbipkmfaaGreat
open Go.RowKit Go.Fb
/-- The cells of n ints. -/
def intsA (n : Nat) (D : Nat → Int) : Array Value := ((List.range n).map fun k => Value.int .i64 (D k)).toArray
theorem intsA_get {n k : Nat} (D : Nat → Int) (h : k < n) : (intsA n D)[k]? = some (.int .i64 (D k)) := by simp [intsA, h]
theorem intsA_size (n : Nat) (D : Nat → Int) : (intsA n D).size = n := by simp [intsA]
theorem intsA_set {n k : Nat} (D : Nat → Int) (u : Int) : (intsA n D).setIfInBounds k (.int .i64 u) = intsA n (fun j => if j = k then u else D j) := by
  apply Array.ext_getElem?
  intro i
  rw [Array.getElem?_setIfInBounds]
  by_cases hi : i < n
  · by_cases e : k = i
    · subst e; simp [intsA, hi]
    · have e' : ¬ i = k := fun h => e h.symm
      simp [intsA, hi, e, e']
  · by_cases e : k = i
    · subst e; simp [intsA, hi]
    · simp [intsA, hi, e]
theorem intsA_congr {n : Nat} {D D' : Nat → Int} (h : ∀ k, k < n → D k = D' k) : intsA n D = intsA n D' := by
  unfold intsA
  congr 1
  apply List.map_congr_left
  intro k hk
  rw [h k (by simpa using hk)]
/-- The first m laid, the others nought. -/
def repD (v : Int) (m : Nat) (k : Nat) : Int := if k < m then v else 0
theorem rep_copy (v : Int) (n m c : Nat) (h : m + c ≤ n) :
    ((intsA n (repD v m)).toList.take m ++ (List.replicate c (Value.int .i64 v) ++ (intsA n (repD v m)).toList.drop (m + (List.replicate c (Value.int .i64 v)).length))).toArray = intsA n (repD v (m + c)) := by
  apply Array.ext_getElem?
  intro i
  rw [List.length_replicate]
  simp only [intsA, List.getElem?_toArray, List.getElem?_append, List.length_take, List.length_map, List.length_range, List.length_replicate, List.getElem?_take, List.getElem?_map, List.getElem?_drop]
  by_cases h1 : i < m
  · rw [if_pos (by omega), if_pos h1]
    simp [show i < n by omega, repD, h1, show i < m + c by omega]
  · rw [if_neg (by omega)]
    by_cases h2 : i < m + c
    · rw [if_pos (by omega)]
      simp [show i - min m n < c by omega, show i < n by omega, repD, h2]
    · rw [if_neg (by omega), show m + c + (i - min m n - c) = i by omega]
      by_cases h3 : i < n
      · simp [h3, repD, h1, h2]
      · simp [h3]
theorem make_intsA (n : Nat) (h : n ≤ 64) (W : World) : (Instr.makeSlice 45 (.int .i64 (n : Int)) (.int .i64 (n : Int))).run Tryz.prog W = .ok (.slice (some ⟨W.heap.size, 0, none⟩) n n) (W.alloc (.cells (intsA n (fun _ => 0)) 3)) := by
  have info : (Tryz.prog.info? 3).map (fun i => (i.zero, i.size, i.bytes)) = some (some (Value.int .i64 0), 1, 8) := by kernel_rfl
  obtain ⟨i, hi, hz, hsz, hby⟩ := info_parts info
  have hr := run_make (P := Tryz.prog) W 45 3 i (.int .i64 0) Tryz.underlying45 hi hz .i64 .i64 n n (by omega) (by omega) (by rw [hby]; omega) (by omega)
  simp only [Int.toNat_natCast] at hr
  have hmc : madeCells (Value.int .i64 0).cells (n * i.size) = intsA n (fun _ => 0) := by
    rw [hsz, Nat.mul_one]
    apply Array.ext
    · simp [size_madeCells, intsA]
    · intro j h1 h2
      simp [madeCells, Value.cells, Nat.mod_one, intsA]
  rw [hmc] at hr
  exact hr
theorem rep_run (v : Int) (W : World) (g n m c dLen dCap sLen sCap : Nat) (ad : Addr) (hb : Blk W g 3 (intsA n (repD v m))) (hc : c = Nat.min sLen dLen) (hfit : m + c ≤ n) (hsrc : ∀ j, j < c → W.cell? (ad.add j) = some (.int .i64 v)) :
    (Builtin.copy_ #[45, 45] 3 #[.slice (some ⟨g, m, none⟩) dLen dCap, .slice (some ad) sLen sCap]).run Tryz.prog W = .ok (.int .i64 c) (W.setRow g (intsA n (repD v (m + c)))) := by
  have h := run_copy_row (P := Tryz.prog) W 45 45 3 3 g m dLen dCap ad sLen sCap (intsA n (repD v m)) 3 (List.replicate c (.int .i64 v)) Tryz.underlying45 (by kernel_rfl) hb (by simpa using hc) (fun j u hu => by
    have hj : j < c := by
      rcases Nat.lt_or_ge j c with h | h
      · exact h
      · rw [List.getElem?_eq_none (by simpa using h)] at hu; cases hu
    rw [List.getElem?_replicate_of_lt hj] at hu
    injection hu with hu
    rw [← hu]
    exact hsrc j hj) (by rw [intsA_size, List.length_replicate]; exact hfit) (by simp [Value.oneCell'])
  rw [List.append_assoc, rep_copy v n m c hfit, List.length_replicate] at h
  exact h
/-- What Repeat leaves: a row of n equal ints in the next block. -/
def RepOut (v : Int) (n : Nat) (w : World) (e : Ending) (w' : World) : Prop :=
  e = .returned (.slice (some ⟨w.heap.size, 0, none⟩) n n) ∧ Blk w' w.heap.size 3 (intsA n fun _ => v) ∧ Fr w.heap.size [] w w'
set_option maxRecDepth 100000 in
theorem repeat_zero (v : Int) (b : Nat) (w : World) :
    Calls Tryz.prog 152 #[.slice (some ⟨b, 0, none⟩) 1 1, .int .i64 0] w (RepOut v 0 w) := by
  have HM := Lib.hid (mul_any 0 (by omega))
  have hmk : ∀ W : World, (Instr.makeSlice 45 (.int .i64 0) (.int .i64 0)).run Tryz.prog W = .ok (.slice (some ⟨W.heap.size, 0, none⟩) 0 0) (W.alloc (.cells (intsA 0 (fun _ => 0)) 3)) := fun W => make_intsA 0 (by omega) W
  have hrun : (Builtin.copy_ #[45, 45] 3 #[.slice (some ⟨w.heap.size, 0, none⟩) 0 0, .slice (some ⟨b, 0, none⟩) 1 1]).run Tryz.prog (w.alloc (.cells (intsA 0 fun _ => 0) 3)) = .ok (.int .i64 0) (w.alloc (.cells (intsA 0 fun _ => 0) 3)) :=
    run_copy_none (P := Tryz.prog) _ 45 45 3 3 _ _ 0 0 1 1 Tryz.underlying45 (by kernel_rfl) rfl
  go_enter Tryz.func152, Tryz.ntmps152
  go_wp2_with fail
  refine (HM.out _).mono ?_
  rintro e w' ⟨rfl, rfl⟩
  go_wp2_with fail
  go_loop [8] (fun i => i = .int .i64 0) (fun _ => 0)
  case atStart => rfl
  case round =>
    subst hrel
    go_wp2_with fail
    go_ret
    exact ⟨rfl, Blk.new _ _ _, (Fr.refl _ _ _).alloc (Nat.le_refl _) _⟩
set_option maxRecDepth 100000 in
set_option maxHeartbeats 1000000 in
theorem repeat_any (v : Int) (n b : Nat) (hn : n ≤ 24) (w : World) (hb : b < w.heap.size) (hc : w.cell? ⟨b, 0, none⟩ = some (.int .i64 v)) :
    Calls Tryz.prog 152 #[.slice (some ⟨b, 0, none⟩) 1 1, .int .i64 n] w (RepOut v n w) := by
  by_cases h0 : n = 0
  · subst h0; exact repeat_zero v b w
  have HM := Lib.hid (mul_any n hn)
  have hmk := fun W => make_intsA n (by omega) W
  have hd : decide ((n : Int) < 0) = false := decide_eq_false (by omega)
  go_enter Tryz.func152, Tryz.ntmps152
  go_wp2_with fail
  refine (HM.out _).mono ?_
  rintro e w' ⟨rfl, rfl⟩
  go_upto_region 7 with fail
  · have h1 : (1 : Int) ≤ n := by omega
    have B1 := Blk.new w 3 (intsA n (fun _ => 0))
    have hrun : (Builtin.copy_ #[45, 45] 3 #[.slice (some ⟨w.heap.size, 0, none⟩) n n, .slice (some ⟨b, 0, none⟩) 1 1]).run Tryz.prog (w.alloc (.cells (intsA n fun _ => 0) 3)) = .ok (.int .i64 1) ((w.alloc (.cells (intsA n fun _ => 0) 3)).setRow w.heap.size (intsA n (repD v 1))) := by
      have h := rep_run v (w.alloc (.cells (intsA n fun _ => 0) 3)) w.heap.size n 0 1 n n 1 1 ⟨b, 0, none⟩ B1 (Nat.min_eq_left (by omega)).symm (by omega) (fun j hj => by
        obtain rfl : j = 0 := by omega
        show (w.alloc _).cell? ⟨b, 0, none⟩ = _
        rw [← hc]
        exact World.cell?_of_block (Below.heap_alloc _ _ _ hb))
      exact h
    have B2 : RowKit.Hid (Blk ((w.alloc (.cells (intsA n fun _ => 0) 3)).setRow w.heap.size (intsA n (repD v 1))) w.heap.size 3 (intsA n (repD v 1))) := setRow_heap _ _ _ _ _ _ B1
    have F2 : RowKit.Hid (Below w.heap.size w ((w.alloc (.cells (intsA n fun _ => 0) 3)).setRow w.heap.size (intsA n (repD v 1)))) := below_setRow ((Below.refl _ _).alloc (Nat.le_refl _) _) (Nat.le_refl _) _
    clear B1
    go_wp2_with fail
    generalize (w.alloc _).setRow _ _ = w2 at *
    clear hrun
    go_loopw [8] (fun i wr => ∃ m : Nat, 1 ≤ m ∧ m ≤ n ∧ i = .int .i64 m ∧ RowKit.Hid (Blk wr w.heap.size 3 (intsA n (repD v m))) ∧ RowKit.Hid (Below w.heap.size w wr)) (fun i _ => n - (intOf i).toNat)
    case atStart => exact ⟨1, Nat.le_refl _, by omega, rfl, B2, F2⟩
    case round =>
      clear B2 F2
      obtain ⟨m, hm1, hmn, rfl, BR, FR⟩ := hrel
      by_cases hlt : m < n
      · have hmi : (m : Int) < (n : Int) := by omega
        obtain ⟨c, hcv⟩ : ∃ c, c = Nat.min m (n - m) := ⟨_, rfl⟩
        have hc1 : 1 ≤ c := by rw [hcv]; show 1 ≤ min m (n - m); omega
        have hc2 : m + c ≤ n := by rw [hcv]; show m + min m (n - m) ≤ n; omega
        have HCV := Lib.hid hcv
        clear hcv
        have hw1 : IntKind.i64.wrap ((m : Int) + c) = ((m + c : Nat) : Int) := by rw [IntKind.wrap_i64]; omega
        have hnm : ¬ n = m := by omega
        have hrun2 := rep_run v wr.drew w.heap.size n m c (n - m) (n - m) m n ⟨w.heap.size, 0, none⟩ BR.out.drew (by rw [HCV.out]) hc2 (fun j hj => by
          have hj2 : j < m := by have := HCV.out; have h3 : c ≤ m := by rw [this]; exact Nat.min_le_left _ _
                                 omega
          have e : (⟨w.heap.size, 0, none⟩ : Addr).add j = ⟨w.heap.size, j, none⟩ := by unfold Addr.add; split <;> simp_all
          rw [e, BR.out.drew.cell j, intsA_get _ (by omega)]
          simp [repD, hj2])
        have B2 : RowKit.Hid (Blk (wr.drew.setRow w.heap.size (intsA n (repD v (m + c)))) w.heap.size 3 (intsA n (repD v (m + c)))) := setRow_heap _ _ _ _ _ _ BR.out.drew
        have F2 : RowKit.Hid (Below w.heap.size w (wr.drew.setRow w.heap.size (intsA n (repD v (m + c))))) := below_setRow FR.out.drew (Nat.le_refl _) _
        clear BR FR
        generalize hw3 : wr.drew.setRow w.heap.size (intsA n (repD v (m + c))) = w3 at *
        clear hw3
        go_upto_region 9 with fail
        go_region
        all_goals
          go_wp2_with fail
          go_roundw
          case rel => exact ⟨m + c, by omega, by omega, by go_num, B2.out, F2.out⟩
          case measure => simp [intOf]; omega
      · obtain rfl : n = m := by omega
        go_wp2_with fail
        go_ret
        exact ⟨rfl, (by rw [← intsA_congr (D := repD v n) (fun k hk => by unfold repD; rw [if_pos hk])]; exact BR.out), Fr.of_below FR.out⟩
end Go.Proofs.YthfibggbipkmfaaGreat
namespace Go.Proofs.YthfibggbipkmfaaGreat
open Go.RowKit Go.Fb
/-- The operations in the order in which they are laid, with what each takes and leaves. -/
def effL : List (Int × Int × Int) := [(1, 0, 1), (2, 0, 1), (3, 0, 1), (4, 0, 1), (5, 1, 0), (13, 1, 0), (14, 1, 0), (15, 1, 0), (6, 2, 1), (7, 2, 1), (8, 2, 1), (17, 2, 1), (9, 1, 1), (10, 1, 1), (11, 1, 2), (12, 2, 2)]
def entOf (i : Nat) (x : Int × Int × Int) : MapEntry := { key := .int .i64 x.1, val := .agg #[.int .i64 x.2.1, .int .i64 x.2.2], born := i }
def effA : Nat → Array MapEntry
  | 0 => #[]
  | i + 1 => (effA i).push (entOf i (effL.getD i (0, 0, 0)))
theorem alloc_over (w : World) (o o' : Obj) : ({ w.alloc o with heap := (w.alloc o).heap.setIfInBounds w.heap.size o' } : World) = w.alloc o' := by
  have h : (w.heap.push o).setIfInBounds w.heap.size o' = w.heap.push o' := by
    apply Array.ext_getElem?
    intro i
    rw [Array.getElem?_setIfInBounds, Array.getElem?_push, Array.getElem?_push]
    by_cases e : w.heap.size = i
    · subst e; simp
    · have e' : ¬ i = w.heap.size := fun h => e h.symm
      simp [e, e']
  show ({ w with heap := (w.heap.push o).setIfInBounds w.heap.size o' } : World) = { w with heap := w.heap.push o' }
  rw [h]
theorem eff_ins (w : World) (i : Nat) (x t l : Int) (hx : effL.getD i (0, 0, 0) = (x, t, l)) (hf : Instr.findNow (.int .i64) (.int .i64 x) (effA i).toList 0 = some none) :
    (Instr.mapUpdate 224 (.map (some w.heap.size)) (.int .i64 x) (.agg #[.int .i64 t, .int .i64 l])).run Tryz.prog (w.alloc (.map (effA i) i)) = .ok () (w.alloc (.map (effA (i + 1)) (i + 1))) := by
  have hb : (w.alloc (.map (effA i) i)).heap[w.heap.size]? = some (.map (effA i) i) := heap_alloc_new w _
  have hc : (Instr.checkKey false 10000 3 (.int .i64 x)).run Tryz.prog (w.alloc (.map (effA i) i)) = .ok () (w.alloc (.map (effA i) i)) :=
    MapKept.run_checkKey (k := .int .i64 x) Tryz.underlying3 (by simp [MapKept.IsKey]) false 9999
  have he : effA (i + 1) = (effA i).push { key := .int .i64 x, val := .agg #[.int .i64 t, .int .i64 l], born := i } := by
    show (effA i).push (entOf i _) = _
    rw [hx]; rfl
  rw [he]
  simp [Instr.mapUpdate, run_underlying Tryz.underlying224, MapKept.run_getObj_map hb, hc, MapKept.run_findKey Tryz.underlying3 hf, MapKept.run_setObj_map _ hb, Result.andThen]
  exact alloc_over w _ _
/-- The map lies in block r. -/
def EffMap (w : World) (r : Nat) : Prop := w.heap[r]? = some (.map (effA 16) 16)
theorem eff_find (o : Int) (h : 0 ≤ o ∧ o ≤ 17) : (o = 0 ∨ o = 16) ∧ Instr.findNow (.int .i64) (.int .i64 o) (effA 16).toList 0 = some none ∨ ∃ j, Instr.findNow (.int .i64) (.int .i64 o) (effA 16).toList 0 = some (some (j, .agg #[.int .i64 (takesF o), .int .i64 (leavesF o)])) := by
  obtain ⟨n, rfl⟩ := Int.eq_ofNat_of_zero_le h.1
  have hn : n ≤ 17 := by omega
  match n, hn with
  | 0, _ => exact .inl ⟨.inl rfl, by rfl⟩
  | 16, _ => exact .inl ⟨.inr rfl, by rfl⟩
  | 1, _ => exact .inr ⟨0, by rfl⟩
  | 2, _ => exact .inr ⟨1, by rfl⟩
  | 3, _ => exact .inr ⟨2, by rfl⟩
  | 4, _ => exact .inr ⟨3, by rfl⟩
  | 5, _ => exact .inr ⟨4, by rfl⟩
  | 13, _ => exact .inr ⟨5, by rfl⟩
  | 14, _ => exact .inr ⟨6, by rfl⟩
  | 15, _ => exact .inr ⟨7, by rfl⟩
  | 6, _ => exact .inr ⟨8, by rfl⟩
  | 7, _ => exact .inr ⟨9, by rfl⟩
  | 8, _ => exact .inr ⟨10, by rfl⟩
  | 17, _ => exact .inr ⟨11, by rfl⟩
  | 9, _ => exact .inr ⟨12, by rfl⟩
  | 10, _ => exact .inr ⟨13, by rfl⟩
  | 11, _ => exact .inr ⟨14, by rfl⟩
  | 12, _ => exact .inr ⟨15, by rfl⟩
theorem eff_look {w : World} {r : Nat} (h : EffMap w r) (o : Int) (ho : 0 ≤ o ∧ o ≤ 17) : (Instr.lookup 224 (.map (some r)) (.int .i64 o) false).run Tryz.prog w = .ok (.agg #[.int .i64 (takesF o), .int .i64 (leavesF o)]) w := by
  have hc : ∀ b, (Instr.checkKey b 10000 3 (.int .i64 o)).run Tryz.prog w = .ok () w := fun b =>
    MapKept.run_checkKey (k := .int .i64 o) Tryz.underlying3 (by simp [MapKept.IsKey]) b 9999
  have hz : (zeroValue 239).run Tryz.prog w = .ok (.agg #[.int .i64 0, .int .i64 0]) w := by kernel_rfl
  rcases eff_find o ho with ⟨h0, hf⟩ | ⟨j, hf⟩
  · have e1 : takesF o = 0 := by rcases h0 with rfl | rfl <;> rfl
    have e2 : leavesF o = 0 := by rcases h0 with rfl | rfl <;> rfl
    rw [e1, e2]
    simp [Instr.lookup, run_underlying Tryz.underlying224, MapKept.run_getObj_map h, hc, MapKept.run_findKey Tryz.underlying3 hf, hz, Result.andThen]
  · simp [Instr.lookup, run_underlying Tryz.underlying224, MapKept.run_getObj_map h, hc, MapKept.run_findKey Tryz.underlying3 hf, Result.andThen]
set_option maxRecDepth 100000 in
set_option maxHeartbeats 1000000 in
theorem effects_any (w : World) : Calls Tryz.prog 151 #[] w fun e w' => e = .returned (.map (some w.heap.size)) ∧ w' = w.alloc (.map (effA 16) 16) := by
  have hmk : (Instr.makeMap 224 none).run Tryz.prog w = .ok (.map (some w.heap.size)) (w.alloc (.map (effA 0) 0)) := by
    show _ = Result.ok _ (w.alloc (.map #[] 0))
    simp [Instr.makeMap, Result.andThen]
  have i0 := eff_ins w 0 1 0 1 rfl rfl
  have i1 := eff_ins w 1 2 0 1 rfl rfl
  have i2 := eff_ins w 2 3 0 1 rfl rfl
  have i3 := eff_ins w 3 4 0 1 rfl rfl
  have i4 := eff_ins w 4 5 1 0 rfl rfl
  have i5 := eff_ins w 5 13 1 0 rfl rfl
  have i6 := eff_ins w 6 14 1 0 rfl rfl
  have i7 := eff_ins w 7 15 1 0 rfl rfl
  have i8 := eff_ins w 8 6 2 1 rfl rfl
  have i9 := eff_ins w 9 7 2 1 rfl rfl
  have i10 := eff_ins w 10 8 2 1 rfl rfl
  have i11 := eff_ins w 11 17 2 1 rfl rfl
  have i12 := eff_ins w 12 9 1 1 rfl rfl
  have i13 := eff_ins w 13 10 1 1 rfl rfl
  have i14 := eff_ins w 14 11 1 2 rfl rfl
  have i15 := eff_ins w 15 12 2 2 rfl rfl
  simp only [Nat.reduceAdd] at i0 i1 i2 i3 i4 i5 i6 i7 i8 i9 i10 i11 i12 i13 i14 i15
  go_enter Tryz.func151, Tryz.ntmps151
  go_wp2_with fail
  go_ret
  exact ⟨rfl, rfl⟩
end Go.Proofs.YthfibggbipkmfaaGreat
namespace Go.Proofs.YthfibggbipkmfaaGreat
open Go.RowKit Go.Fb
/-- The bounds of an operation's number. -/
def boF (o : Int) : Int := if o = 1 ∨ o = 2 then -524288 else if o = 4 ∨ o = 5 then 0 else if o = 15 ∨ o = 16 then 1 else 0
def boT (o : Int) : Int := if o = 1 ∨ o = 2 then 524287 else if o = 4 ∨ o = 5 then 1 else if o = 15 ∨ o = 16 then 24 else 0
def boB (o : Int) : Bool := decide (o = 1 ∨ o = 2 ∨ o = 4 ∨ o = 5 ∨ o = 15 ∨ o = 16)
theorem bo_other {o : Int} (h : ¬ (o = 1 ∨ o = 2 ∨ o = 4 ∨ o = 5 ∨ o = 15 ∨ o = 16)) : boF o = 0 ∧ boT o = 0 ∧ boB o = false := by
  refine ⟨?_, ?_, ?_⟩
  · unfold boF; rw [if_neg (by omega), if_neg (by omega), if_neg (by omega)]
  · unfold boT; rw [if_neg (by omega), if_neg (by omega), if_neg (by omega)]
  · unfold boB; exact decide_eq_false h
theorem bounds_any (o : Int) (w : World) : Calls Tryz.prog 177 #[.int .i64 o] w fun e w' => e = .returned (.tuple #[.int .i64 (boF o), .int .i64 (boT o), .bool (boB o)]) ∧ w = w' := by
  by_cases h : o = 1 ∨ o = 2 ∨ o = 4 ∨ o = 5 ∨ o = 15 ∨ o = 16
  · rcases h with rfl | rfl | rfl | rfl | rfl | rfl
    · show Calls _ _ _ _ fun e w' => e = .returned (.tuple #[.int .i64 (-524288), .int .i64 524287, .bool true]) ∧ w = w'
      go_enter Tryz.func177, Tryz.ntmps177
      go_wp2_with fail
      go_ret3
      exact ⟨rfl, rfl⟩
    · show Calls _ _ _ _ fun e w' => e = .returned (.tuple #[.int .i64 (-524288), .int .i64 524287, .bool true]) ∧ w = w'
      go_enter Tryz.func177, Tryz.ntmps177
      go_wp2_with fail
      go_ret3
      exact ⟨rfl, rfl⟩
    · show Calls _ _ _ _ fun e w' => e = .returned (.tuple #[.int .i64 0, .int .i64 1, .bool true]) ∧ w = w'
      go_enter Tryz.func177, Tryz.ntmps177
      go_wp2_with fail
      go_ret3
      exact ⟨rfl, rfl⟩
    · show Calls _ _ _ _ fun e w' => e = .returned (.tuple #[.int .i64 0, .int .i64 1, .bool true]) ∧ w = w'
      go_enter Tryz.func177, Tryz.ntmps177
      go_wp2_with fail
      go_ret3
      exact ⟨rfl, rfl⟩
    · show Calls _ _ _ _ fun e w' => e = .returned (.tuple #[.int .i64 1, .int .i64 24, .bool true]) ∧ w = w'
      go_enter Tryz.func177, Tryz.ntmps177
      go_wp2_with fail
      go_ret3
      exact ⟨rfl, rfl⟩
    · show Calls _ _ _ _ fun e w' => e = .returned (.tuple #[.int .i64 1, .int .i64 24, .bool true]) ∧ w = w'
      go_enter Tryz.func177, Tryz.ntmps177
      go_wp2_with fail
      go_ret3
      exact ⟨rfl, rfl⟩
  · obtain ⟨e1, e2, e3⟩ := bo_other h
    rw [e1, e2, e3]
    clear e1 e2 e3
    have h1 : (o == 1) = false := by simp; omega
    have h2 : (o == 2) = false := by simp; omega
    have h4 : (o == 4) = false := by simp; omega
    have h5 : (o == 5) = false := by simp; omega
    have h15 : (o == 15) = false := by simp; omega
    have h16 : (o == 16) = false := by simp; omega
    clear h
    go_enter Tryz.func177, Tryz.ntmps177
    go_wp2_with fail
    go_ret3
    exact ⟨rfl, rfl⟩
/-- May an instruction be? -/
def rightB (i : Int × Int) : Bool := decide (0 ≤ i.1 ∧ i.1 < 18 ∧ boF i.1 ≤ i.2 ∧ i.2 ≤ boT i.1)
set_option maxRecDepth 100000 in
set_option maxHeartbeats 1000000 in
theorem cright_any (i : Int × Int) (w : World) : Calls Tryz.prog 168 #[.agg #[.int .i64 i.1, .int .i64 i.2]] w fun e w' => e = .returned (.bool (rightB i)) ∧ Fr w.heap.size [] w w' := by
  obtain ⟨o, a⟩ := i
  obtain ⟨v, hv⟩ : ∃ v, v = rightB (o, a) := ⟨_, rfl⟩
  rw [← hv]
  unfold rightB at hv
  have HB := Lib.hid (bounds_any o)
  simp only at hv ⊢
  generalize boF o = f at *
  generalize boT o = t at *
  generalize boB o = b at *
  by_cases c1 : o < 0
  · obtain rfl : v = false := by rw [hv]; exact decide_eq_false (by omega)
    clear hv
    go_enter Tryz.func168, Tryz.ntmps168
    go_wp2_with fail
    refine (HB.out _).mono ?_
    rintro e w' ⟨rfl, rfl⟩
    go_wp2_with fail
    go_ret
    exact ⟨rfl, (Fr.refl _ _ _).alloc (Nat.le_refl _) _⟩
  by_cases c2 : o < 18
  case neg =>
    obtain rfl : v = false := by rw [hv]; exact decide_eq_false (by omega)
    clear hv
    go_enter Tryz.func168, Tryz.ntmps168
    go_wp2_with fail
    refine (HB.out _).mono ?_
    rintro e w' ⟨rfl, rfl⟩
    go_wp2_with fail
    go_ret
    exact ⟨rfl, (Fr.refl _ _ _).alloc (Nat.le_refl _) _⟩
  by_cases c3 : a < f
  · obtain rfl : v = false := by rw [hv]; exact decide_eq_false (by omega)
    clear hv
    go_enter Tryz.func168, Tryz.ntmps168
    go_wp2_with fail
    refine (HB.out _).mono ?_
    rintro e w' ⟨rfl, rfl⟩
    go_wp2_with fail
    go_ret
    exact ⟨rfl, (Fr.refl _ _ _).alloc (Nat.le_refl _) _⟩
  by_cases c4 : t < a
  · obtain rfl : v = false := by rw [hv]; exact decide_eq_false (by omega)
    clear hv
    have hd : decide (a ≤ t) = false := decide_eq_false (by omega)
    go_enter Tryz.func168, Tryz.ntmps168
    go_wp2_with fail
    refine (HB.out _).mono ?_
    rintro e w' ⟨rfl, rfl⟩
    go_wp2_with fail
    go_ret
    exact ⟨rfl, (Fr.refl _ _ _).alloc (Nat.le_refl _) _⟩
  · obtain rfl : v = true := by rw [hv]; exact decide_eq_true (by omega)
    clear hv
    go_enter Tryz.func168, Tryz.ntmps168
    go_wp2_with fail
    refine (HB.out _).mono ?_
    rintro e w' ⟨rfl, rfl⟩
    go_wp2_with fail
    go_ret
    exact ⟨rfl, (Fr.refl _ _ _).alloc (Nat.le_refl _) _⟩
/-- The cells of a program. -/
def insC (x : Int × Int) : List Value := [.int .i64 x.1, .int .i64 x.2]
def cellsI (l : List (Int × Int)) : List Value := l.flatMap insC
theorem cellsI_length (l : List (Int × Int)) : (cellsI l).length = l.length * 2 := by
  unfold cellsI
  induction l with
  | nil => rfl
  | cons x l ih => rw [List.flatMap_cons, List.length_append, ih]; simp [insC]; omega
theorem cellsI_get : ∀ {l : List (Int × Int)} {k : Nat} {x : Int × Int}, l[k]? = some x → (cellsI l)[k * 2]? = some (.int .i64 x.1) ∧ (cellsI l)[k * 2 + 1]? = some (.int .i64 x.2)
  | [], k, x, h => by simp at h
  | y :: l, 0, x, h => by
    simp at h
    subst h
    exact ⟨rfl, rfl⟩
  | y :: l, k + 1, x, h => by
    have ih := cellsI_get (l := l) (k := k) (x := x) (by simpa using h)
    have e : cellsI (y :: l) = .int .i64 y.1 :: .int .i64 y.2 :: cellsI l := rfl
    rw [e, show (k + 1) * 2 = k * 2 + 1 + 1 by omega]
    exact ih
theorem reads_ins {w : World} {B : Nat} {A : Option Addr} {l : List (Int × Int)} (h : Reads w B 2 A l.length (cellsI l)) {k : Nat} {x : Int × Int} (hx : l[k]? = some x) :
    ∃ b off, A = some ⟨b, off, none⟩ ∧ b < B ∧ w.cell? ⟨b, off + k * 2, none⟩ = some (.int .i64 x.1) ∧ w.cell? ⟨b, off + k * 2 + 1, none⟩ = some (.int .i64 x.2) := by
  have hk : k < l.length := by
    rcases Nat.lt_or_ge k l.length with h' | h'
    · exact h'
    · rw [List.getElem?_eq_none h'] at hx; cases hx
  obtain ⟨b, off, e, hb, hc⟩ := h.2 (by omega)
  obtain ⟨h1, h2⟩ := cellsI_get hx
  exact ⟨b, off, e, hb, hc _ _ h1, by rw [Nat.add_assoc]; exact hc _ _ h2⟩
/-- May a program's instructions be? -/
def fitsB (l : List (Int × Int)) : Bool := decide (l.length ≤ 24) && l.all rightB
theorem wrong_any (i : Int × Int) (w : World) : Calls Tryz.prog 167 #[.agg #[.int .i64 i.1, .int .i64 i.2]] w fun e w' => e = .returned (.bool (!rightB i)) ∧ Fr w.heap.size [] w w' := by
  have H := Lib.hid (cright_any i)
  generalize rightB i = v at *
  go_enter Tryz.func167, Tryz.ntmps167
  go_wp2_with fail
  refine (H.out _).mono ?_
  rintro e w1 ⟨rfl, f1⟩
  have F1 := Lib.hid (((Fr.refl _ _ _).alloc (Nat.le_refl _) _).trans (f1.mono (by simp) (by simp)) : Fr w.heap.size [] w w1)
  clear f1
  go_wp2_with fail
  go_ret
  exact ⟨rfl, F1.out⟩
def SomeIdx (b : Bool) (w : World) (e : Ending) (w' : World) : Prop := ∃ i : Int, e = .returned (.int .i64 i) ∧ (decide (0 ≤ i) = b) ∧ Fr w.heap.size [] w w'
theorem all_take_succ {f : Int × Int → Bool} {l : List (Int × Int)} {k : Nat} {x : Int × Int} (h : l[k]? = some x) : (l.take (k + 1)).all f = ((l.take k).all f && f x) := by
  rw [List.take_add_one, h, List.all_append]
  simp
theorem all_bad {f : Int × Int → Bool} {l : List (Int × Int)} {k : Nat} {x : Int × Int} (h : l[k]? = some x) (hf : f x = false) : l.all f = false := by
  rw [List.all_eq_false]
  exact ⟨x, List.mem_of_getElem? h, by simp [hf]⟩
set_option maxRecDepth 100000 in
theorem iindex_any (A : Option Addr) (c B : Nat) (l : List (Int × Int)) (w : World) (hr : Reads w B 2 A l.length (cellsI l)) (hB : B ≤ w.heap.size) (hn : l.length ≤ maxLen) :
    Calls Tryz.prog 178 #[.slice A l.length c, .func (.func 167) #[] #[]] w (SomeIdx (!l.all rightB) w) := by
  unfold maxLen at hn
  have HR := Lib.hid hr
  obtain ⟨n, hnl⟩ : ∃ n, n = l.length := ⟨_, rfl⟩
  rw [← hnl] at hn ⊢
  have HN := Lib.hid hnl
  clear hr hnl
  go_enter Tryz.func178, Tryz.ntmps178
  go_wp2_with fail
  go_loopw [8] (fun i wr => ∃ k : Nat, k ≤ n ∧ i = .int .i64 k ∧ RowKit.Hid ((l.take k).all rightB = true) ∧ RowKit.Hid (Fr w.heap.size [] w wr)) (fun i _ => n - (intOf i).toNat)
  case atStart => exact ⟨0, Nat.zero_le _, rfl, rfl, Fr.refl _ _ _⟩
  case round =>
    obtain ⟨k, hk, rfl, HA, HF⟩ := hrel
    by_cases hlt : k < n
    · obtain ⟨x, hx⟩ : ∃ x, l[k]? = some x := ⟨_, List.getElem?_eq_getElem (by rw [← HN.out]; exact hlt)⟩
      obtain ⟨b, off, rfl, hb, c1, c2⟩ := reads_ins (HR.out.fr HF.out hB (by simp)) hx
      have hki : (k : Int) < (n : Int) := by omega
      have HX := Lib.hid hx
      clear hx
      go_wp2_with fail
      refine (wrong_any x _).mono ?_
      rintro e w1 ⟨rfl, f1⟩
      have F1 := Lib.hid (HF.out.trans (f1.mono (B' := w.heap.size) (L' := []) HF.out.size (by simp)))
      clear f1
      cases hrx : rightB x
      case false =>
        have HV := Lib.hid (all_bad HX.out hrx)
        clear hrx
        go_wp2_with fail
        go_ret
        exact ⟨k, rfl, by rw [HV.out]; simp, F1.out⟩
      case true =>
        have HV := Lib.hid hrx
        clear hrx
        go_wp2_with fail
        go_roundw
        case rel => exact ⟨k + 1, by omega, by go_num, (by show _ = _; rw [all_take_succ HX.out, HA.out, HV.out]; rfl), F1.out⟩
        case measure => simp [intOf]; omega
    · obtain rfl : n = k := by omega
      go_wp2_with fail
      go_ret
      refine ⟨-1, rfl, ?_, HF.out⟩
      have h := HA.out
      rw [List.take_of_length_le (by rw [HN.out]; exact Nat.le_refl _)] at h
      rw [h]; rfl
theorem icontains_any (A : Option Addr) (c B : Nat) (l : List (Int × Int)) (w : World) (hr : Reads w B 2 A l.length (cellsI l)) (hB : B ≤ w.heap.size) (hn : l.length ≤ maxLen) :
    Calls Tryz.prog 169 #[.slice A l.length c, .func (.func 167) #[] #[]] w fun e w' => e = .returned (.bool (!l.all rightB)) ∧ Fr w.heap.size [] w w' := by
  have H := Lib.hid (iindex_any A c B l w hr hB hn)
  clear hr hn hB
  go_enter Tryz.func169, Tryz.ntmps169
  go_wp2_with fail
  refine H.out.mono ?_
  rintro e w' ⟨i, rfl, hi, hf⟩
  have HI := Lib.hid hi
  have HF := Lib.hid hf
  clear hi hf
  go_wp2_with fail
  go_ret
  exact ⟨by rw [← HI.out]; rfl, HF.out⟩
theorem fits_any (A : Option Addr) (c B : Nat) (l : List (Int × Int)) (w : World) (hr : Reads w B 2 A l.length (cellsI l)) (hB : B ≤ w.heap.size) (hn : l.length ≤ maxLen) :
    Calls Tryz.prog 150 #[.slice A l.length c] w fun e w' => e = .returned (.bool (fitsB l)) ∧ Fr w.heap.size [] w w' := by
  have H := Lib.hid (icontains_any A c B l w hr hB hn)
  unfold maxLen at hn
  clear hr
  obtain ⟨v, hv⟩ : ∃ v, v = fitsB l := ⟨_, rfl⟩
  rw [← hv]
  unfold fitsB at hv
  obtain ⟨n, hnl⟩ : ∃ n, n = l.length := ⟨_, rfl⟩
  rw [← hnl] at hn hv H ⊢
  clear hnl
  by_cases h24 : n ≤ 24
  · rw [decide_eq_true h24, Bool.true_and] at hv
    rw [← hv] at H
    have HV := Lib.hid hv
    clear hv
    go_enter Tryz.func150, Tryz.ntmps150
    go_wp2_with fail
    refine H.out.mono ?_
    rintro e w' ⟨rfl, hf⟩
    have HF := Lib.hid hf
    clear hf
    go_wp2_with fail
    go_ret
    exact ⟨by simp, HF.out⟩
  · rw [decide_eq_false h24, Bool.false_and] at hv
    subst hv
    go_enter Tryz.func150, Tryz.ntmps150
    go_wp2_with fail
    go_ret
    exact ⟨rfl, Fr.refl _ _ _⟩
end Go.Proofs.YthfibggbipkmfaaGreat
namespace Go.Proofs.YthfibggbipkmfaaGreat
open Go.RowKit Go.Fb
/-- The cells of what is known while a program is gone through. -/
abbrev wkC (gd ge gm n : Nat) (A : Option Addr) (c : Nat) (s : CS) : Array Value :=
  #[.slice (some ⟨gd, 0, none⟩) n n, .int .i64 s.mx, .int .i64 s.em, .bool s.u0, .bool s.u1, .slice A n c, .slice (some ⟨ge, 0, none⟩) n n, .map (some gm)]
structure WMem (gw gd ge gm n : Nat) (A : Option Addr) (c : Nat) (s : CS) (w : World) : Prop where
  blk : Blk w gw 227 (wkC gd ge gm n A c s)
  dep : Blk w gd 3 (intsA n s.D)
  ems : Blk w ge 3 (intsA n s.E)
  map : EffMap w gm
  ne1 : gd ≠ gw
  ne2 : ge ≠ gw
  ne3 : gd ≠ ge
theorem EffMap.lt {w : World} {r : Nat} (h : EffMap w r) : r < w.heap.size := by
  rcases Nat.lt_or_ge r w.heap.size with hlt | hge
  · exact hlt
  · unfold EffMap at h; rw [Array.getElem?_eq_none hge] at h; cases h
theorem EffMap.far {w : World} {r : Nat} (h : EffMap w r) {p : Addr} (hp : r ≠ p.block) (u : Value) : EffMap (w.setCell p u) r := (Below.heap_setCell w p u r hp).trans h
theorem EffMap.ne {w : World} {r g t : Nat} {cs : Array Value} (h : EffMap w r) (hb : Blk w g t cs) : r ≠ g := by
  rintro rfl
  unfold EffMap at h
  unfold Blk at hb
  rw [h] at hb
  cases hb
theorem EffMap.fr {w w' : World} {r B : Nat} {L : List Nat} (h : EffMap w r) (hf : Fr B L w w') (h1 : r < B) (h2 : r ∉ L) : EffMap w' r := (hf.block r h1 h2).trans h
theorem WMem.drewN {gw gd ge gm n : Nat} {A : Option Addr} {c : Nat} {s : CS} {w : World} (h : WMem gw gd ge gm n A c s w) (m : Nat) : WMem gw gd ge gm n A c s (w.drewN m) := ⟨h.blk, h.dep, h.ems, h.map, h.ne1, h.ne2, h.ne3⟩
theorem WMem.drew {gw gd ge gm n : Nat} {A : Option Addr} {c : Nat} {s : CS} {w : World} (h : WMem gw gd ge gm n A c s w) : WMem gw gd ge gm n A c s w.drew := ⟨h.blk, h.dep, h.ems, h.map, h.ne1, h.ne2, h.ne3⟩
theorem WMem.keep {gw gd ge gm n : Nat} {A : Option Addr} {c : Nat} {s : CS} {w w' : World} (h : WMem gw gd ge gm n A c s w) (hf : Fr w.heap.size [] w w') : WMem gw gd ge gm n A c s w' :=
  ⟨h.blk.fr hf h.blk.lt (by simp), h.dep.fr hf h.dep.lt (by simp), h.ems.fr hf h.ems.lt (by simp), h.map.fr hf h.map.lt (by simp), h.ne1, h.ne2, h.ne3⟩
/-- The greatest depth and the most emits laid anew. -/
theorem WMem.top {gw gd ge gm n : Nat} {A : Option Addr} {c : Nat} {s : CS} {w : World} (h : WMem gw gd ge gm n A c s w) (a b : Int) :
    WMem gw gd ge gm n A c { s with mx := a, em := b } ((w.setCell ⟨gw, 1, none⟩ (.int .i64 a)).setCell ⟨gw, 2, none⟩ (.int .i64 b)) :=
  ⟨(h.blk.set_ 1 _).set_ 2 _, (h.dep.far (p := ⟨gw, 1, none⟩) h.ne1 _).far (p := ⟨gw, 2, none⟩) h.ne1 _, (h.ems.far (p := ⟨gw, 1, none⟩) h.ne2 _).far (p := ⟨gw, 2, none⟩) h.ne2 _,
    (h.map.far (p := ⟨gw, 1, none⟩) (h.map.ne h.blk) _).far (p := ⟨gw, 2, none⟩) (h.map.ne h.blk) _, h.ne1, h.ne2, h.ne3⟩
theorem WMem.setD {gw gd ge gm n : Nat} {A : Option Addr} {c : Nat} {s : CS} {w : World} (h : WMem gw gd ge gm n A c s w) (t : Nat) (d : Int) :
    WMem gw gd ge gm n A c { s with D := updC s.D t d } (w.setCell ⟨gd, t, none⟩ (.int .i64 d)) := by
  have hb := h.dep.set_ t (.int .i64 d)
  rw [intsA_set] at hb
  exact ⟨h.blk.far (p := ⟨gd, t, none⟩) h.ne1.symm _, hb, h.ems.far (p := ⟨gd, t, none⟩) h.ne3.symm _, h.map.far (p := ⟨gd, t, none⟩) (h.map.ne h.dep) _, h.ne1, h.ne2, h.ne3⟩
theorem WMem.setE {gw gd ge gm n : Nat} {A : Option Addr} {c : Nat} {s : CS} {w : World} (h : WMem gw gd ge gm n A c s w) (t : Nat) (d : Int) :
    WMem gw gd ge gm n A c { s with E := updC s.E t d } (w.setCell ⟨ge, t, none⟩ (.int .i64 d)) := by
  have hb := h.ems.set_ t (.int .i64 d)
  rw [intsA_set] at hb
  exact ⟨h.blk.far (p := ⟨ge, t, none⟩) h.ne2.symm _, h.dep.far (p := ⟨ge, t, none⟩) h.ne3 _, hb, h.map.far (p := ⟨ge, t, none⟩) (h.map.ne h.ems) _, h.ne1, h.ne2, h.ne3⟩
/-- What come leaves. -/
def ComeOut (gw gd ge gm n : Nat) (A : Option Addr) (c : Nat) (r : Option CS) (w : World) (e : Ending) (w' : World) : Prop :=
  e = .returned (.bool r.isSome) ∧ (∀ s', r = some s' → WMem gw gd ge gm n A c s' w') ∧ Fr w.heap.size [gw, gd, ge] w w'
theorem max_if (a b : Int) : max a b = if a < b then b else a := by split <;> omega
set_option maxRecDepth 100000 in
set_option maxHeartbeats 2000000 in
theorem come_any (gw gd ge gm n : Nat) (A : Option Addr) (c : Nat) (s : CS) (t : Nat) (d e : Int) (w : World) (hn : n ≤ 24) (ht : t ≤ n) (hm : WMem gw gd ge gm n A c s w) :
    Calls Tryz.prog 153 #[.pointer (some ⟨gw, 0, none⟩), .int .i64 t, .int .i64 d, .int .i64 e] w (ComeOut gw gd ge gm n A c (comeF n s t d e) w) := by
  obtain ⟨r, hr⟩ : ∃ r, r = comeF n s t d e := ⟨_, rfl⟩
  rw [← hr]
  unfold comeF at hr
  have HR := Lib.hid hr
  have M := Lib.hid hm
  have c1 := hm.blk.cell 1
  have c2 := hm.blk.cell 2
  have z1 := hm.blk.frozen 1
  have z2 := hm.blk.frozen 2
  simp at c1 c2
  have hgw := hm.blk.lt
  clear hr hm
  go_enter Tryz.func153, Tryz.ntmps153
  go_wp2_with fail
  go_region
  have M1 : RowKit.Hid (WMem gw gd ge gm n A c { s with mx := max s.mx d, em := max s.em e } ((w.setCell ⟨gw, 1, none⟩ (.int .i64 (if s.mx < d then d else s.mx))).setCell ⟨gw, 2, none⟩ (.int .i64 (if s.em < e then e else s.em))).drew) := by
    rw [max_if, max_if]
    exact (M.out.top _ _).drew
  have F1 : RowKit.Hid (Fr w.heap.size [gw, gd, ge] w ((w.setCell ⟨gw, 1, none⟩ (.int .i64 (if s.mx < d then d else s.mx))).setCell ⟨gw, 2, none⟩ (.int .i64 (if s.em < e then e else s.em))).drew) :=
    (((Fr.refl _ _ _).setCell (p := ⟨gw, 1, none⟩) (.inr (by simp)) _).setCell (p := ⟨gw, 2, none⟩) (.inr (by simp)) _).drew
  generalize (if s.mx < d then d else s.mx) = a1 at *
  generalize (if s.em < e then e else s.em) = a2 at *
  generalize ((w.setCell ⟨gw, 1, none⟩ (.int .i64 a1)).setCell ⟨gw, 2, none⟩ (.int .i64 a2)).drew = w1 at *
  clear c1 c2 z1 z2 hgw M
  by_cases h1 : 8 < d
  · obtain rfl : r = none := by rw [HR.out, if_pos (.inl h1)]
    go_wp2_with fail
    go_ret
    exact ⟨rfl, (fun _ h => by cases h), F1.out⟩
  by_cases h2 : 4 < e
  · obtain rfl : r = none := by rw [HR.out, if_pos (.inr h2)]
    go_wp2_with fail
    go_ret
    exact ⟨rfl, (fun _ h => by cases h), F1.out⟩
  have c5 := M1.out.blk.cell 5
  simp at c5
  by_cases h3 : t = n
  · have hr : r = some { s with mx := max s.mx d, em := max s.em e } := by rw [HR.out, if_neg (by omega), if_pos h3]
    subst h3
    have HRR := Lib.hid hr
    clear hr
    go_wp2_with fail
    go_ret
    exact ⟨by rw [HRR.out]; simp, fun s' h => by rw [HRR.out] at h; injection h with h; subst h; exact M1.out, F1.out⟩
  have htn : (t : Int) < (n : Int) := by omega
  have hne : ((t : Int) == (n : Int)) = false := by simp; omega
  have c0 := M1.out.blk.cell 0
  simp at c0
  have cd := (M1.out.dep.cell t).trans (intsA_get _ (by omega))
  have zd := M1.out.dep.frozen t
  by_cases h4 : s.D t ≠ -1 ∧ s.D t ≠ d
  · obtain rfl : r = none := by rw [HR.out, if_neg (by omega), if_neg h3, if_pos h4]
    obtain ⟨h5, h6⟩ := h4
    have b1 : (s.D t != -1) = true := by simpa using h5
    have b2 : (s.D t != d) = true := by simpa using h6
    clear h5 h6
    go_wp2_with fail
    go_ret
    exact ⟨rfl, (fun _ h => by cases h), F1.out⟩
  have hr : r = some { s with D := updC s.D t d, E := updC s.E t (max (s.E t) e), mx := max s.mx d, em := max s.em e } := by rw [HR.out, if_neg (by omega), if_neg h3, if_neg h4]
  have HRR := Lib.hid hr
  have h4' : (s.D t != -1) = false ∨ ((s.D t != -1) = true ∧ (s.D t != d) = false) := by
    by_cases h5 : s.D t = -1
    · exact .inl (by simp [h5])
    · by_cases h6 : s.D t = d
      · exact .inr ⟨by simpa using h5, by simp [h6]⟩
      · exact absurd ⟨h5, h6⟩ h4
  clear hr h4
  have M2 := Lib.hid (M1.out.setD t d)
  have F2 := Lib.hid (F1.out.setCell (p := ⟨gd, t, none⟩) (.inr (by simp)) (.int .i64 d))
  rcases h4' with b1 | ⟨b1, b2⟩
  all_goals
    go_upto_region 9 with fail
    generalize w1.setCell ⟨gd, t, none⟩ (.int .i64 d) = w2 at *
    clear c0 c5 cd zd M1 F1
    have c6 := M2.out.blk.cell 6
    have ce := (M2.out.ems.cell t).trans (intsA_get _ (by omega))
    have ze := M2.out.ems.frozen t
    simp at c6
    simp only at ce
    refine wp_region_still_tail 15 (by kernel_rfl) (by kernel_rfl) ?_
    simp only [List.take_succ_cons, List.take_zero, List.drop_succ_cons, List.drop_zero]
    repeat still_step
    refine wpStill_nil ?_
    change wpList _ _ _ _ _ w2.drew
    go_wp2_with fail
    all_goals
      go_ret
      refine ⟨by rw [HRR.out]; rfl, fun s' h => ?_, (F2.out.setCell (p := ⟨ge, t, none⟩) (.inr (by simp)) _).drew⟩
      rw [HRR.out] at h
      injection h with h
      subst h
      first
        | (rw [show max (s.E t) e = e by omega]; exact (M2.out.setE t e).drew)
        | (rw [show max (s.E t) e = s.E t by omega]; exact (M2.out.setE t (s.E t)).drew)
end Go.Proofs.YthfibggbipkmfaaGreat
namespace Go.Proofs.YthfibggbipkmfaaGreat
open Go.RowKit Go.Fb
theorem right_range {i : Int × Int} (h : rightB i = true) : 0 ≤ i.1 ∧ i.1 ≤ 17 ∧ -524288 ≤ i.2 ∧ i.2 ≤ 524287 ∧ ((i.1 = 15 ∨ i.1 = 16) → 1 ≤ i.2 ∧ i.2 ≤ 24) ∧ ((i.1 = 4 ∨ i.1 = 5) → 0 ≤ i.2 ∧ i.2 ≤ 1) := by
  obtain ⟨o, a⟩ := i
  unfold rightB boF boT at h
  have h := of_decide_eq_true h
  simp only at h ⊢
  by_cases h1 : o = 1 ∨ o = 2
  · rw [if_pos h1, if_pos h1] at h; omega
  · rw [if_neg h1, if_neg h1] at h
    by_cases h2 : o = 4 ∨ o = 5
    · rw [if_pos h2, if_pos h2] at h; omega
    · rw [if_neg h2, if_neg h2] at h
      by_cases h3 : o = 15 ∨ o = 16
      · rw [if_pos h3, if_pos h3] at h; omega
      · rw [if_neg h3, if_neg h3] at h; omega
/-- What next leaves. -/
def NextOut (L : List Nat) (w : World) (e : Ending) (w' : World) : Prop :=
  ∃ A c, e = .returned (.slice A L.length c) ∧ Reads w' w'.heap.size 1 A L.length (L.map fun t : Nat => Value.int .i64 t) ∧ (∀ ad, A = some ad → w.heap.size ≤ ad.block) ∧ Fr w.heap.size [] w w'
theorem reads_new1 (w : World) (a : Nat) : Reads (w.alloc (.cells #[.int .i64 a] 3)) (w.alloc (.cells #[.int .i64 a] 3)).heap.size 1 (some ⟨w.heap.size, 0, none⟩) 1 ([a].map fun t : Nat => Value.int .i64 t) :=
  (Reads.of_blk (size := 1) (m := 1) (Blk.new w 3 #[.int .i64 a]) rfl).more (by simp)
theorem reads_new2 (w : World) (a b : Nat) : Reads (w.alloc (.cells #[.int .i64 a, .int .i64 b] 3)) (w.alloc (.cells #[.int .i64 a, .int .i64 b] 3)).heap.size 1 (some ⟨w.heap.size, 0, none⟩) 2 ([a, b].map fun t : Nat => Value.int .i64 t) :=
  (Reads.of_blk (size := 1) (m := 2) (Blk.new w 3 #[.int .i64 a, .int .i64 b]) rfl).more (by simp)
set_option maxRecDepth 100000 in
set_option maxHeartbeats 2000000 in
theorem next_any (A : Option Addr) (c B : Nat) (l : List (Int × Int)) (k : Nat) (i : Int × Int) (w : World) (hr : Reads w B 2 A l.length (cellsI l)) (hB : B ≤ w.heap.size) (hn : l.length ≤ 24) (hx : l[k]? = some i) (hi : rightB i = true) :
    Calls Tryz.prog 171 #[.slice A l.length c, .int .i64 k] w (NextOut (nextsF l.length k i) w) := by
  have hkl : k < l.length := by
    rcases Nat.lt_or_ge k l.length with h' | h'
    · exact h'
    · rw [List.getElem?_eq_none h'] at hx; cases hx
  obtain ⟨b, off, rfl, hb, c1, c2⟩ := reads_ins hr hx
  obtain ⟨r1, r2, r3, r4, r5, r6⟩ := right_range hi
  obtain ⟨o, a⟩ := i
  obtain ⟨n, hnl⟩ : ∃ n, n = l.length := ⟨_, rfl⟩
  rw [← hnl] at hn hkl ⊢
  have hbw : b < w.heap.size := by omega
  simp only at c1 c2 r1 r2 r3 r4 r5 r6
  clear hr hx hi hnl hb hB
  obtain ⟨L, hL⟩ : ∃ L, L = nextsF n k (o, a) := ⟨_, rfl⟩
  rw [← hL]
  unfold nextsF at hL
  simp only at hL
  have hki : (k : Int) < (n : Int) := by omega
  by_cases h0 : o = 0
  · rw [if_pos h0] at hL
    subst hL h0
    clear r5 r6
    by_cases hf : (k : Int) + 1 + a ≤ n
    all_goals
      go_enter Tryz.func171, Tryz.ntmps171
      go_wp2_with fail
      go_ret
      exact ⟨none, 0, rfl, Reads.none_, (fun _ h => by cases h), (Fr.refl _ _ _).alloc (Nat.le_refl _) _⟩
  by_cases h16 : o = 16
  · rw [if_neg h0, if_pos h16] at hL
    obtain ⟨q1, q2⟩ := r5 (.inr h16)
    obtain ⟨m, hm⟩ := Int.eq_ofNat_of_zero_le (show 0 ≤ a by omega)
    have hm' : a = (m : Int) := hm
    subst hm' h16
    unfold farF at hL
    rw [Int.toNat_natCast] at hL
    clear r5 r6 h0 hm
    by_cases hf : k + 1 + m ≤ n
    · rw [Nat.min_eq_left hf] at hL
      subst hL
      have hf' : (k : Int) + 1 + m ≤ n := by omega
      go_enter Tryz.func171, Tryz.ntmps171
      go_wp2_with fail
      go_ret
      refine ⟨_, 1, rfl, ?_, (fun ad h => by injection h with h; subst h; simp), ((Fr.refl _ _ _).alloc (Nat.le_refl _) _).alloc (by simp) _⟩
      have h := reads_new1 (w.alloc (.cells #[.int .i64 16, .int .i64 m] 121)) (k + 1 + m)
      simpa using h
    · rw [Nat.min_eq_right (by omega)] at hL
      subst hL
      have hf' : (n : Int) < (k : Int) + 1 + m := by omega
      go_enter Tryz.func171, Tryz.ntmps171
      go_wp2_with fail
      go_ret
      refine ⟨_, 1, rfl, ?_, (fun ad h => by injection h with h; subst h; simp), ((Fr.refl _ _ _).alloc (Nat.le_refl _) _).alloc (by simp) _⟩
      have h := reads_new1 (w.alloc (.cells #[.int .i64 16, .int .i64 m] 121)) n
      simpa using h
  by_cases h15 : o = 15
  · rw [if_neg h0, if_neg h16, if_pos h15] at hL
    obtain ⟨q1, q2⟩ := r5 (.inl h15)
    obtain ⟨m, hm⟩ := Int.eq_ofNat_of_zero_le (show 0 ≤ a by omega)
    have hm' : a = (m : Int) := hm
    subst hm' h15
    unfold farF at hL
    rw [Int.toNat_natCast] at hL
    clear r5 r6 h0 h16 hm
    by_cases hf : k + 1 + m ≤ n
    · rw [Nat.min_eq_left hf] at hL
      subst hL
      have hf' : (k : Int) + 1 + m ≤ n := by omega
      go_enter Tryz.func171, Tryz.ntmps171
      go_wp2_with fail
      go_ret
      refine ⟨_, 2, rfl, ?_, (fun ad h => by injection h with h; subst h; simp), ((Fr.refl _ _ _).alloc (Nat.le_refl _) _).alloc (by simp) _⟩
      have h := reads_new2 (w.alloc (.cells #[.int .i64 15, .int .i64 m] 121)) (k + 1) (k + 1 + m)
      simpa using h
    · rw [Nat.min_eq_right (by omega)] at hL
      subst hL
      have hf' : (n : Int) < (k : Int) + 1 + m := by omega
      go_enter Tryz.func171, Tryz.ntmps171
      go_wp2_with fail
      go_ret
      refine ⟨_, 2, rfl, ?_, (fun ad h => by injection h with h; subst h; simp), ((Fr.refl _ _ _).alloc (Nat.le_refl _) _).alloc (by simp) _⟩
      have h := reads_new2 (w.alloc (.cells #[.int .i64 15, .int .i64 m] 121)) (k + 1) n
      simpa using h
  · rw [if_neg h0, if_neg h16, if_neg h15] at hL
    subst hL
    have e0 : (o == 0) = false := by simpa using h0
    have e16 : (o == 16) = false := by simpa using h16
    have e15 : (o == 15) = false := by simpa using h15
    clear r5 r6 h0 h16 h15
    by_cases hf : (k : Int) + 1 + a ≤ n
    all_goals
      go_enter Tryz.func171, Tryz.ntmps171
      go_wp2_with fail
      go_ret
      refine ⟨_, 1, rfl, ?_, (fun ad h => by injection h with h; subst h; simp), ((Fr.refl _ _ _).alloc (Nat.le_refl _) _).alloc (by simp) _⟩
      have h := reads_new1 (w.alloc (.cells #[.int .i64 o, .int .i64 a] 121)) (k + 1)
      simpa using h
end Go.Proofs.YthfibggbipkmfaaGreat
namespace Go.Proofs.YthfibggbipkmfaaGreat
open Go.RowKit Go.Fb
theorem nextsF_gt {n k : Nat} {i : Int × Int} (hk : k < n) (hi : rightB i = true) : ∀ t ∈ nextsF n k i, k < t ∧ t ≤ n := by
  intro t ht
  have h := nextsF_le hk i t ht
  obtain ⟨_, _, _, _, r5, _⟩ := right_range hi
  unfold nextsF farF at ht
  split at ht
  · cases ht
  · split at ht
    · rename_i h16
      have := r5 (.inr h16)
      simp at ht
      omega
    · split at ht
      · rename_i h15
        have := r5 (.inl h15)
        simp at ht
        omega
      · simp at ht; omega
theorem nextsF_len (n k : Nat) (i : Int × Int) : (nextsF n k i).length ≤ 2 := by
  unfold nextsF
  split
  · simp
  · split
    · simp
    · split <;> simp
theorem come_D {n t : Nat} {s s' : CS} {d e : Int} (h : comeF n s t d e = some s') (k : Nat) (hk : k ≠ t) : s'.D k = s.D k := by
  unfold comeF at h
  split at h
  · cases h
  · split at h
    · injection h with h; subst h; rfl
    · split at h
      · cases h
      · injection h with h; subst h
        simp only [updC]
        rw [if_neg hk]
theorem comes_drop {n : Nat} {d e : Int} {L : List Nat} {j t : Nat} (s : CS) (h : L[j]? = some t) : comesF n d e (L.drop j) s = match comeF n s t d e with
    | none => none
    | some s' => comesF n d e (L.drop (j + 1)) s' := by
  have hj : j < L.length := by
    rcases Nat.lt_or_ge j L.length with h' | h'
    · exact h'
    · rw [List.getElem?_eq_none h'] at h; cases h
  rw [List.getElem?_eq_getElem hj] at h
  injection h with h
  rw [List.drop_eq_getElem_cons hj, h]
  rfl
theorem WMem.setU0 {gw gd ge gm n : Nat} {A : Option Addr} {c : Nat} {s : CS} {w : World} (h : WMem gw gd ge gm n A c s w) : WMem gw gd ge gm n A c { s with u0 := true } (w.setCell ⟨gw, 3, none⟩ (.bool true)) :=
  ⟨h.blk.set_ 3 _, h.dep.far (p := ⟨gw, 3, none⟩) h.ne1 _, h.ems.far (p := ⟨gw, 3, none⟩) h.ne2 _, h.map.far (p := ⟨gw, 3, none⟩) (h.map.ne h.blk) _, h.ne1, h.ne2, h.ne3⟩
theorem WMem.setU1 {gw gd ge gm n : Nat} {A : Option Addr} {c : Nat} {s : CS} {w : World} (h : WMem gw gd ge gm n A c s w) : WMem gw gd ge gm n A c { s with u1 := true } (w.setCell ⟨gw, 4, none⟩ (.bool true)) :=
  ⟨h.blk.set_ 4 _, h.dep.far (p := ⟨gw, 4, none⟩) h.ne1 _, h.ems.far (p := ⟨gw, 4, none⟩) h.ne2 _, h.map.far (p := ⟨gw, 4, none⟩) (h.map.ne h.blk) _, h.ne1, h.ne2, h.ne3⟩
/-- What step leaves. -/
def StepOut (gw gd ge gm n : Nat) (A : Option Addr) (c : Nat) (r : Option CS) (w : World) (e : Ending) (w' : World) : Prop :=
  e = .returned (.bool r.isSome) ∧ (∀ s', r = some s' → WMem gw gd ge gm n A c s' w') ∧ Fr w.heap.size [gw, gd, ge] w w'
set_option maxRecDepth 100000 in
set_option maxHeartbeats 4000000 in
theorem step_any (gw gd ge gm : Nat) (A : Option Addr) (c B : Nat) (l : List (Int × Int)) (s : CS) (k : Nat) (i : Int × Int) (w : World) (hr : Reads w B 2 A l.length (cellsI l)) (hB : B ≤ gw ∧ B ≤ gd ∧ B ≤ ge) (hn : l.length ≤ 24) (hx : l[k]? = some i) (hi : rightB i = true)
    (hI : CInv l.length s) (p : Nat → Int × Int) (hp : p k = i) (hm : WMem gw gd ge gm l.length A c s w) :
    Calls Tryz.prog 154 #[.pointer (some ⟨gw, 0, none⟩), .int .i64 k] w (StepOut gw gd ge gm l.length A c (stepF l.length p s k) w) := by
  have hkl : k < l.length := by
    rcases Nat.lt_or_ge k l.length with h' | h'
    · exact h'
    · rw [List.getElem?_eq_none h'] at hx; cases hx
  obtain ⟨r, hrr⟩ : ∃ r, r = stepF l.length p s k := ⟨_, rfl⟩
  rw [← hrr]
  unfold stepF at hrr
  rw [hp] at hrr
  have hBw : B ≤ w.heap.size := Nat.le_trans hB.1 (Nat.le_of_lt hm.blk.lt)
  have NX := Lib.hid (fun (w' : World) (hw : Fr w.heap.size [gw, gd, ge] w w') => next_any A c B l k i w' (hr.fr hw hBw (by simp; omega)) (Nat.le_trans hBw hw.size) hn hx hi)
  obtain ⟨b, off, hA, hb, c1, c2⟩ := reads_ins hr hx
  obtain ⟨r1, r2, r3, r4, r5, r6⟩ := right_range hi
  have GT := Lib.hid (nextsF_gt hkl hi)
  obtain ⟨o, a⟩ := i
  obtain ⟨n, hnl⟩ : ∃ n, n = l.length := ⟨_, rfl⟩
  rw [← hnl] at hn hkl hm hrr NX GT hI ⊢
  obtain ⟨t1, t2⟩ := takesF_range o
  obtain ⟨t3, t4⟩ := leavesF_range o
  have HRR := Lib.hid hrr
  simp only at c1 c2 r1 r2 r3 r4 r5 r6 HRR
  obtain ⟨d1, d2⟩ := hI.d k
  obtain ⟨e1, e2⟩ := hI.e k
  have HI := Lib.hid hI
  have HM := Lib.hid hm
  have hbw : b < w.heap.size := by omega
  have hgw := hm.blk.lt
  have hgd := hm.dep.lt
  have hge := hm.ems.lt
  have hgm := hm.map.lt
  have q5 := hm.blk.cell 5
  simp at q5
  have HLK := Lib.hid (fun (w' : World) (h : EffMap w' gm) => eff_look h o ⟨r1, r2⟩)
  have hki : (k : Int) < (n : Int) := by omega
  clear hr hx hi hnl hb hp hrr hm hI
  rw [hA] at q5
  clear hA
  go_enter Tryz.func154, Tryz.ntmps154
  go_wp2_with fail
  have B5 := Blk.new w 121 #[.int .i64 o, .int .i64 a]
  have f1 := (Fr.refl w.heap.size [] w).alloc (Nat.le_refl _) (.cells #[.int .i64 o, .int .i64 a] 121)
  have hs1 : (w.alloc (.cells #[.int .i64 o, .int .i64 a] 121)).heap.size = w.heap.size + 1 := by simp
  have M1 := Lib.hid (HM.out.keep f1)
  obtain ⟨w1, hw1⟩ : ∃ w1, w1 = w.alloc (.cells #[.int .i64 o, .int .i64 a] 121) := ⟨_, rfl⟩
  rw [← hw1] at B5 f1 hs1 M1 ⊢
  have F1 := Lib.hid f1
  have HS1 := Lib.hid hs1
  have B5' := Lib.hid B5
  have q7 := M1.out.blk.cell 7
  have p0 := B5.cell 0
  simp at q7 p0
  have hlk1 := HLK.out w1.drew M1.out.map
  have hlk2 := HLK.out ((w1.alloc (.cells #[.int .i64 0, .int .i64 0] 239)).drew) ((Below.heap_alloc _ _ _ M1.out.map.lt).trans M1.out.map)
  have h5lt : w.heap.size < w1.heap.size := B5.lt
  have hgw1 := M1.out.blk.lt
  clear B5 f1 hs1 hw1 c1 c2 q5 HM HLK
  generalize hg5 : w.heap.size = g5 at *
  have HG5 := Lib.hid hg5
  clear hg5
  go_cut [6] (fun s6 wx => s6 = .pointer (some ⟨w1.heap.size, 0, none⟩) ∧ wx = (w1.alloc (.cells #[.int .i64 (takesF o), .int .i64 (leavesF o)] 239)).drew)
  case first =>
    go_region
    all_goals
      go_wp2_with fail
      go_meet
      exact ⟨rfl, rfl⟩
  case rest =>
    obtain ⟨rfl, rfl⟩ := hcut
    have B6 := (Blk.new w1 239 #[.int .i64 (takesF o), .int .i64 (leavesF o)]).drew
    have f2 := ((Fr.refl w1.heap.size [] w1).alloc (Nat.le_refl _) (.cells #[.int .i64 (takesF o), .int .i64 (leavesF o)] 239)).drew
    have M2 := Lib.hid (M1.out.keep f2)
    have B52 := Lib.hid (B5'.out.fr f2 B5'.out.lt (by simp))
    have F2 := Lib.hid (F1.out.trans (f2.mono (B' := g5) (L' := []) (Nat.le_of_lt h5lt) (by simp)))
    clear hlk1 hlk2 q7 p0 M1 F1 B5' f2
    generalize (w1.alloc (.cells #[.int .i64 (takesF o), .int .i64 (leavesF o)] 239)).drew = w2 at *
    have h65 : g5 < w1.heap.size := h5lt
    generalize w1.heap.size = g6 at *
    have HB6 := Lib.hid B6
    have u0 := B6.cell 0
    have x0 := M2.out.blk.cell 0
    have xd := (M2.out.dep.cell k).trans (intsA_get _ hkl)
    simp at u0 x0
    clear B6
    generalize takesF o = tk at *
    generalize leavesF o = lv at *
    by_cases hlt : s.D k < tk
    · obtain rfl : r = none := by rw [HRR.out, if_pos hlt]
      have hd : decide (s.D k < tk) = true := decide_eq_true hlt
      go_wp2_with fail
      go_quiet (fail)
      go_wp2_with fail
      go_ret
      exact ⟨rfl, (fun _ h => by cases h), by rw [HG5.out]; exact (F2.out.drewN nq).mono (Nat.le_refl _) (by simp)⟩
    have hd : decide (s.D k < tk) = false := decide_eq_false hlt
    have hrr := HRR.out
    rw [if_neg hlt] at hrr
    have HR2 := Lib.hid hrr
    clear hrr HRR
    go_wp2_with fail
    go_quiet (fail)
    have M3 := Lib.hid (M2.out.drewN nq)
    have B53 := Lib.hid (B52.out.drewN nq)
    have B63 := Lib.hid (HB6.out.drewN nq)
    have F3 := Lib.hid ((F2.out.drewN nq).mono (B' := g5) (L' := [gw, gd, ge]) (Nat.le_refl _) (by simp))
    clear M2 B52 HB6 F2 u0 x0 xd hd
    generalize w2.drewN nq = w3 at *
    have y6 := M3.out.blk.cell 6
    have ye := (M3.out.ems.cell k).trans (intsA_get _ hkl)
    have y0 := B53.out.cell 0
    have y1 := B53.out.cell 1
    simp at y6 y0 y1
    go_upto_block 0 with fail
    go_cut [7] (fun s7 wx => s7 = .int .i64 (emF s k (o, a)) ∧ RowKit.Hid (WMem gw gd ge gm n A c (useF s (o, a)) wx) ∧ RowKit.Hid (Blk wx g6 239 #[.int .i64 tk, .int .i64 lv]) ∧ RowKit.Hid (Fr g5 [gw, gd, ge] w wx))
    case first =>
      by_cases h14 : o = 14
      · subst h14
        go_wp2_with fail
        go_meet
        exact ⟨by simp [emF], (by unfold useF; rw [if_neg (by simp)]; exact M3.out), B63.out, F3.out⟩
      by_cases h45 : o = 4 ∨ o = 5
      · have hem : emF s k (o, a) = s.E k := by unfold emF; rw [if_neg (by simpa using h14)]
        obtain ⟨a1, a2⟩ := r6 h45
        have HEM := Lib.hid hem
        clear r5 r6 hem h14
        have z3 := M3.out.blk.frozen 3
        have z4 := M3.out.blk.frozen 4
        have v3 := M3.out.blk.cell 3
        have v4 := M3.out.blk.cell 4
        simp at v3 v4
        have ha : a = 0 ∨ a = 1 := by omega
        rcases ha with rfl | rfl <;> rcases h45 with rfl | rfl
        all_goals
          go_upto_region 11 with fail
          go_region
          all_goals
            go_wp2_with fail
            go_meet
            first
              | exact ⟨by rw [HEM.out], M3.out.setU0.drew, (B63.out.far (p := ⟨gw, 3, none⟩) (by show g6 ≠ gw; omega) _).drew, (F3.out.setCell (p := ⟨gw, 3, none⟩) (.inr (by simp)) _).drew⟩
              | exact ⟨by rw [HEM.out], M3.out.setU1.drew, (B63.out.far (p := ⟨gw, 4, none⟩) (by show g6 ≠ gw; omega) _).drew, (F3.out.setCell (p := ⟨gw, 4, none⟩) (.inr (by simp)) _).drew⟩
      · have e14 : (o == 14) = false := by simpa using h14
        have e4 : (o == 4) = false := by simp; omega
        have e5 : (o == 5) = false := by simp; omega
        have HEM := Lib.hid (show emF s k (o, a) = s.E k by unfold emF; rw [if_neg (by simpa using h14)])
        have HUS := Lib.hid (show useF s (o, a) = s by unfold useF; rw [if_neg (by simpa using h45)])
        clear r5 r6 h14 h45
        go_wp2_with fail
        go_meet
        exact ⟨by rw [HEM.out], (by rw [HUS.out]; exact M3.out), B63.out, F3.out⟩
    case rest =>
      obtain ⟨rfl, M4, B64, F4⟩ := hcut
      have y5 := M4.out.blk.cell 5
      simp at y5
      have HI4 := Lib.hid (HI.out.use (o, a))
      have HD4 : RowKit.Hid ((useF s (o, a)).D k = s.D k) := by rw [use_D]; exact (rfl : s.D k = s.D k)
      have hem := emF_range HI.out k (o, a)
      generalize emF s k (o, a) = em at *
      generalize useF s (o, a) = s4 at *
      clear M3 B53 B63 F3 HI y0 y1 y6 ye
      go_wp2_with fail
      refine (NX.out wc F4.out).mono ?_
      rintro e w5 ⟨AL, cL, rfl, RL, apL, fL⟩
      have hL2 := nextsF_len n k (o, a)
      generalize nextsF n k (o, a) = L at *
      obtain ⟨N, hN⟩ : ∃ N, N = L.length := ⟨_, rfl⟩
      rw [← hN] at RL hL2 ⊢
      have HN := Lib.hid hN
      have hgc : g6 < wc.heap.size := B64.out.lt
      have M5 := Lib.hid (M4.out.keep fL)
      have B65 := Lib.hid (B64.out.fr fL B64.out.lt (by simp))
      have F5 := Lib.hid (F4.out.trans (fL.mono (B' := g5) (L' := [gw, gd, ge]) (by omega) (by simp)))
      have HRL := Lib.hid RL
      have HAP := Lib.hid apL
      have hs5 : wc.heap.size ≤ w5.heap.size := fL.size
      clear hN RL apL fL M4 B64 F4 y5 NX
      go_wp2_with fail
      go_loopw [65] (fun i wr => ∃ (j : Nat) (sj : CS), j ≤ N ∧ i = .int .i64 j ∧ RowKit.Hid (comesF n (s.D k - tk + lv) em L s4 = comesF n (s.D k - tk + lv) em (L.drop j) sj) ∧ RowKit.Hid (WMem gw gd ge gm n A c sj wr) ∧ RowKit.Hid (sj.D k = s.D k) ∧ RowKit.Hid (Blk wr g6 239 #[.int .i64 tk, .int .i64 lv]) ∧ RowKit.Hid (Fr g5 [gw, gd, ge] w wr) ∧ RowKit.Hid (Fr w5.heap.size [gw, gd, ge] w5 wr)) (fun i _ => N - (intOf i).toNat)
      case atStart => exact ⟨0, s4, by omega, rfl, rfl, M5, HD4, B65, F5, Fr.refl _ _ _⟩
      case round =>
        clear M5 B65 F5
        obtain ⟨j, sj, hj, rfl, HQ, MR, DR, BR, FR, FW⟩ := hrel
        by_cases hjN : j < N
        · obtain ⟨bl, ol, u, hAL, hbl, hu, hcu⟩ := HRL.out.one hjN
          obtain ⟨t, ht, rfl⟩ : ∃ t : Nat, L[j]? = some t ∧ Value.int .i64 t = u := by simpa using hu
          have hap := HAP.out ⟨bl, ol, none⟩ hAL
          simp only at hap
          have hcr := (FW.out.cell (p := ⟨bl, ol + j, none⟩) hbl (by simp; omega)).trans hcu
          obtain ⟨g1, g2⟩ := GT.out t (List.mem_of_getElem? ht)
          have HST := Lib.hid (comes_drop (d := s.D k - tk + lv) (e := em) (n := n) sj ht)
          have x0 := MR.out.blk.cell 0
          have xd := (MR.out.dep.cell k).trans (intsA_get _ hkl)
          rw [DR.out] at xd
          have u0 := BR.out.cell 0
          have u1 := BR.out.cell 1
          simp at x0 u0 u1
          have hw1 : IntKind.i64.wrap (s.D k - tk) = s.D k - tk := by rw [IntKind.wrap_i64]; omega
          have hw2 : IntKind.i64.wrap (s.D k - tk + lv) = s.D k - tk + lv := by rw [IntKind.wrap_i64]; omega
          rw [hAL]
          clear ht hu hcu hap
          go_upto_region 15 with fail
          refine wp_region_still_tail 17 (by kernel_rfl) (by kernel_rfl) ?_
          simp only [List.take_succ_cons, List.take_zero, List.drop_succ_cons, List.drop_zero]
          repeat still_step
          refine wpStill_nil ?_
          change wpList _ _ _ _ _ wr.drew
          go_wp2_with fail
          have hce := come_any gw gd ge gm n A c sj t (s.D k - tk + lv) em wr.drew hn g2 MR.out.drew
          have FW' := Lib.hid (FW.out.drew)
          have FR' := Lib.hid (FR.out.drew)
          have hsz := FR.out.size
          have BR' := Lib.hid (BR.out.drew)
          have hgr : g6 < wr.heap.size := BR.out.lt
          clear x0 xd u0 u1 hcr FW FR BR MR hw1 hw2
          rcases (show comeF n sj t (s.D k - tk + lv) em = none ∨ ∃ s', comeF n sj t (s.D k - tk + lv) em = some s' by cases comeF n sj t (s.D k - tk + lv) em; exact .inl rfl; exact .inr ⟨_, rfl⟩) with hq | ⟨s', hq⟩
          · rw [hq] at hce
            have HQQ := Lib.hid hq
            clear hq
            refine hce.mono ?_
            rintro e w6 ⟨rfl, hms, f6⟩
            have F6 := Lib.hid (FR'.out.trans (f6.mono (B' := g5) (L' := [gw, gd, ge]) (by show g5 ≤ wr.heap.size; omega) (fun q hq _ => hq)))
            clear f6 hms hce
            go_wp2_with fail
            go_ret
            have hrn : r = none := by rw [HR2.out, HQ.out, HST.out, HQQ.out]
            exact ⟨by rw [hrn]; rfl, (fun _ h => by rw [hrn] at h; cases h), by rw [HG5.out]; exact F6.out⟩
          · rw [hq] at hce
            have HQQ := Lib.hid hq
            clear hq
            refine hce.mono ?_
            rintro e w6 ⟨rfl, hms, f6⟩
            have F6 := Lib.hid (FR'.out.trans (f6.mono (B' := g5) (L' := [gw, gd, ge]) (by show g5 ≤ wr.heap.size; omega) (fun q hq _ => hq)))
            have W6 := Lib.hid (FW'.out.trans (f6.mono (B' := w5.heap.size) (L' := [gw, gd, ge]) FW'.out.size (fun q hq _ => hq)))
            have B6 := Lib.hid (BR'.out.fr f6 BR'.out.lt (by simp; omega))
            have MS := Lib.hid (hms s' rfl)
            clear f6 hms hce
            go_wp2_with fail
            go_roundw
            case rel =>
              refine ⟨j + 1, s', by omega, by go_num, ?_, MS, ?_, B6, F6, W6⟩
              · show _ = _
                rw [HQ.out, HST.out, HQQ.out]
              · show _ = _
                rw [come_D HQQ.out k (by omega)]
                exact DR.out
            case measure => simp [intOf]; omega
        · obtain rfl : N = j := by omega
          have hrn : r = some sj := by
            rw [HR2.out, HQ.out, List.drop_of_length_le (by rw [HN.out]; exact Nat.le_refl _)]
            rfl
          have HRN := Lib.hid hrn
          clear hrn
          go_wp2_with fail
          go_ret
          exact ⟨by rw [HRN.out]; rfl, (fun s'' h => by rw [HRN.out] at h; injection h with h; subst h; exact MR.out), by rw [HG5.out]; exact FR.out⟩
end Go.Proofs.YthfibggbipkmfaaGreat
namespace Go.Proofs.YthfibggbipkmfaaGreat
open Go.RowKit Go.Fb

/-- The cells of an array of eight ints; the array as a value. -/
abbrev C8 (r : Nat → Int) : Array Value := #[.int .i64 (r 0), .int .i64 (r 1), .int .i64 (r 2), .int .i64 (r 3), .int .i64 (r 4), .int .i64 (r 5), .int .i64 (r 6), .int .i64 (r 7)]
abbrev A8 (r : Nat → Int) : Value := .agg (C8 r)
/-- A result that lies in a row of cells, and one in a slot. -/
theorem results_cell_row_tmp {P : Program} {fn : Func} {p q : Tmp} {ty : TypeId} (h : fn.results = #[.cell p ty, .tmp q]) (tmps : Array Value) (w : World) (g : Nat) (t : TypeId) (cs : Array Value) (fr : Nat × Nat) (d : TypeDesc)
    (hp : tmps.getD p undef = .pointer (some ⟨g, 0, none⟩)) (hg : w.heap[g]? = some (.cells cs t fr))
    (hu : P.underlying ty = some d) (hd : (match d with | .struct _ | .array _ _ => true | _ => false) = true) (hi : (P.info? ty).map (·.size) = some cs.size) :
    (results fn tmps).run P w = .ok (.tuple #[.agg cs, tmps.getD q undef]) w := by
  have hp' : tmps[p]?.getD undef = .pointer (some ⟨g, 0, none⟩) := by simpa using hp
  simp [results, h, hp', asAddr, run_loadVar_row w g t ty cs fr d hg hu hd hi]
end Go.Proofs.YthfibggbipkmfaaGreat
namespace Go.Proofs.YthfibggbipkmfaaGreat
open Go.RowKit Go.Fb
def pF (l : List (Int × Int)) (k : Nat) : Int × Int := l.getD k (0, 0)
/-- What is known of a program, if it may run. -/
def chkL (l : List (Int × Int)) : Option CS := if fitsB l = true then checkF l.length (pF l) l.length else none
/-- What Check leaves. -/
def ChkOut (l : List (Int × Int)) (w : World) (e : Ending) (w' : World) : Prop :=
  (∀ s, chkL l = some s → ∃ gd, e = .returned (.tuple #[.agg #[.slice (some ⟨gd, 0, none⟩) l.length l.length, .int .i64 s.mx, .int .i64 s.em, .bool s.u0, .bool s.u1], .int .i64 0]) ∧ w.heap.size ≤ gd ∧ Blk w' gd 3 (intsA l.length s.D)) ∧
  (chkL l = none → e = .returned (.tuple #[.agg #[.slice none 0 0, .int .i64 0, .int .i64 0, .bool false, .bool false], .int .i64 9])) ∧ Fr w.heap.size [] w w'
theorem checkF_none {n : Nat} {p : Nat → Int × Int} {k : Nat} (h : checkF n p k = none) : ∀ d, checkF n p (k + d) = none
  | 0 => h
  | d + 1 => by
    show checkF n p (k + d + 1) = none
    unfold checkF
    rw [checkF_none h d]
/-- The cells of a report. -/
abbrev repC (v : Value) (a b : Int) (x y : Bool) : Array Value := #[v, .int .i64 a, .int .i64 b, .bool x, .bool y]
def set5 (w : World) (g : Nat) (v : Value) (a b : Int) (x y : Bool) : World :=
  ((((w.setCell ⟨g, 0, none⟩ v).setCell ⟨g, 1, none⟩ (.int .i64 a)).setCell ⟨g, 2, none⟩ (.int .i64 b)).setCell ⟨g, 3, none⟩ (.bool x)).setCell ⟨g, 4, none⟩ (.bool y)
theorem blk_set5 {w : World} {g t : Nat} {v0 : Value} {a0 b0 : Int} {x0 y0 : Bool} (h : Blk w g t (repC v0 a0 b0 x0 y0)) (v : Value) (a b : Int) (x y : Bool) : Blk (set5 w g v a b x y) g t (repC v a b x y) :=
  ((((h.set_ 0 v).set_ 1 (.int .i64 a)).set_ 2 (.int .i64 b)).set_ 3 (.bool x)).set_ 4 (.bool y)
theorem fr_set5 {B g : Nat} {L : List Nat} {a0 w : World} (h : Fr B L a0 w) (hg : B ≤ g ∨ g ∈ L) (v : Value) (a b : Int) (x y : Bool) : Fr B L a0 (set5 w g v a b x y) :=
  ((((h.setCell (p := ⟨g, 0, none⟩) hg _).setCell (p := ⟨g, 1, none⟩) hg _).setCell (p := ⟨g, 2, none⟩) hg _).setCell (p := ⟨g, 3, none⟩) hg _).setCell (p := ⟨g, 4, none⟩) hg _
def freshS : CS := ⟨fun _ => -1, fun _ => 0, 0, 0, false, false⟩
theorem come_start (n : Nat) : comeF n freshS 0 0 0 = some (startF n) := by
  unfold comeF
  rw [if_neg (by omega)]
  by_cases h : 0 = n
  · rw [if_pos h]
    subst h
    simp [freshS, startF]
  · rw [if_neg h, if_neg (by simp [freshS])]
    have h' : ¬ n = 0 := fun e => h e.symm
    simp only [freshS, startF]
    congr 2
    · funext j; simp [h', updC]
    · funext j; simp [updC]
theorem heap3 (w : World) (a b c : Obj) : (((w.alloc a).alloc b).alloc c).drew.heap[w.heap.size]? = some a ∧ (((w.alloc a).alloc b).alloc c).drew.heap[w.heap.size + 1]? = some b ∧ (((w.alloc a).alloc b).alloc c).drew.heap[w.heap.size + 2]? = some c ∧ Fr w.heap.size [] w (((w.alloc a).alloc b).alloc c).drew := by
  have e1 : (w.alloc a).heap.size = w.heap.size + 1 := by simp
  have e2 : ((w.alloc a).alloc b).heap.size = w.heap.size + 2 := by simp
  refine ⟨?_, ?_, ?_, (((((Fr.refl _ _ _).alloc (Nat.le_refl _) _).alloc (by simp) _).alloc (by simp; omega) _).drew)⟩
  · show (((w.alloc a).alloc b).alloc c).heap[w.heap.size]? = some a
    rw [Below.heap_alloc _ _ _ (by rw [e2]; omega), Below.heap_alloc _ _ _ (by rw [e1]; omega)]
    exact heap_alloc_new w a
  · show (((w.alloc a).alloc b).alloc c).heap[w.heap.size + 1]? = some b
    rw [Below.heap_alloc _ _ _ (by rw [e2]; omega), ← e1]
    exact heap_alloc_new (w.alloc a) b
  · show (((w.alloc a).alloc b).alloc c).heap[w.heap.size + 2]? = some c
    rw [← e2]
    exact heap_alloc_new ((w.alloc a).alloc b) c
theorem rightB_of {l : List (Int × Int)} (h : fitsB l = true) {k : Nat} {i : Int × Int} (hx : l[k]? = some i) : rightB i = true := by
  unfold fitsB at h
  rw [Bool.and_eq_true, List.all_eq_true] at h
  exact h.2 i (List.mem_of_getElem? hx)
theorem pF_of {l : List (Int × Int)} {k : Nat} {i : Int × Int} (hx : l[k]? = some i) : pF l k = i := by
  unfold pF
  rw [List.getD_eq_getElem?_getD, hx]
  rfl
set_option maxRecDepth 100000 in
set_option maxHeartbeats 2000000 in
theorem check_any (A : Option Addr) (c B : Nat) (l : List (Int × Int)) (w : World) (hr : Reads w B 2 A l.length (cellsI l)) (hB : B ≤ w.heap.size) (hn : l.length ≤ maxLen) :
    Calls Tryz.prog 126 #[.slice A l.length c] w (ChkOut l w) := by
  have FT := Lib.hid (fun (w' : World) (hw : Fr w.heap.size [] w w') => fits_any A c B l w' (hr.fr hw hB (by simp)) (Nat.le_trans hB hw.size) hn)
  have hm := hn
  unfold maxLen at hm
  have HR := Lib.hid hr
  have FF := Lib.hid (fun (h : fitsB l = true) => (by unfold fitsB at h; rw [Bool.and_eq_true] at h; exact of_decide_eq_true h.1 : l.length ≤ 24))
  have CL := Lib.hid (show chkL l = if fitsB l = true then checkF l.length (pF l) l.length else none from rfl)
  clear hr hn
  have hfb := (by cases fitsB l; exact .inr rfl; exact .inl rfl : fitsB l = true ∨ fitsB l = false)
  have f0 := (Fr.refl w.heap.size [] w).alloc (Nat.le_refl _) (.cells (repC (.slice none 0 0) 0 0 false false) 197)
  have b0 := Blk.new w 197 (repC (.slice none 0 0) 0 0 false false)
  have hft := FT.out _ f0
  rcases hfb with hfb | hfb
  case inr =>
    rw [hfb] at hft
    have HCL : RowKit.Hid (chkL l = none) := by rw [CL.out, hfb]; exact (rfl : (none : Option CS) = none)
    have HFT := Lib.hid hft
    clear hft hfb f0 b0
    go_enter Tryz.func126, Tryz.ntmps126
    go_wp2_with fail
    refine HFT.out.mono ?_
    rintro e w1 ⟨rfl, f1⟩
    have B1 := Lib.hid ((Blk.new w 197 (repC (.slice none 0 0) 0 0 false false)).fr f1 (by simp) (by simp))
    have F1 := Lib.hid (((Fr.refl w.heap.size [] w).alloc (Nat.le_refl _) (.cells (repC (.slice none 0 0) 0 0 false false) 197)).trans (f1.mono (B' := w.heap.size) (L' := []) (by simp) (by simp)))
    have c0 := B1.out.cell 0
    have c1 := B1.out.cell 1
    have c2 := B1.out.cell 2
    have c3 := B1.out.cell 3
    have c4 := B1.out.cell 4
    have z0 := B1.out.frozen 0
    have z1 := B1.out.frozen 1
    have z2 := B1.out.frozen 2
    have z3 := B1.out.frozen 3
    have z4 := B1.out.frozen 4
    simp at c0 c1 c2 c3 c4
    clear f1
    go_wp2_with fail
    refine bodyPost_ret (results_cell_row_tmp rfl _ _ w.heap.size 197 (repC (.slice none 0 0) 0 0 false false) (0, 0) _ rfl (blk_set5 B1.out _ _ _ _ _) Tryz.underlying197 rfl (by kernel_rfl)) rfl ⟨(fun s h => by rw [HCL.out] at h; cases h), (fun _ => rfl), fr_set5 F1.out (.inl (Nat.le_refl _)) _ _ _ _ _⟩
  case inl =>
    rw [hfb] at hft
    have hn24 := FF.out hfb
    have HCL : RowKit.Hid (chkL l = checkF l.length (pF l) l.length) := by rw [CL.out, if_pos hfb]; exact (rfl : checkF l.length (pF l) l.length = _)
    have HRB := Lib.hid (fun k i (hx : l[k]? = some i) => rightB_of hfb hx)
    have HFT := Lib.hid hft
    clear hft hfb f0 b0 FT FF CL
    go_enter Tryz.func126, Tryz.ntmps126
    go_wp2_with fail
    refine HFT.out.mono ?_
    rintro e w1 ⟨rfl, f1⟩
    have B1 := Lib.hid ((Blk.new w 197 (repC (.slice none 0 0) 0 0 false false)).fr f1 (by simp) (by simp))
    have F1 := Lib.hid (((Fr.refl w.heap.size [] w).alloc (Nat.le_refl _) (.cells (repC (.slice none 0 0) 0 0 false false) 197)).trans (f1.mono (B' := w.heap.size) (L' := []) (by simp) (by simp)))
    have hr0 : w.heap.size < w1.heap.size := B1.out.lt
    obtain ⟨n, hnl⟩ : ∃ n, n = l.length := ⟨_, rfl⟩
    have HN := Lib.hid hnl
    rw [← hnl] at hn24 ⊢
    have hmk := fun W => make_intsA n (by omega) W
    clear f1 HFT hnl hm
    go_upto_region 3 with fail
    go_cut [4] (fun s4 wx => ∃ gw ge gm, s4 = .pointer (some ⟨gw, 0, none⟩) ∧ RowKit.Hid (Blk wx gw 227 #[.slice none 0 0, .int .i64 0, .int .i64 0, .bool false, .bool false, .slice A n c, .slice (some ⟨ge, 0, none⟩) n n, .map (some gm)]) ∧ RowKit.Hid (Blk wx ge 3 (intsA n fun _ => 0)) ∧ RowKit.Hid (EffMap wx gm) ∧ RowKit.Hid (Fr w1.heap.size [] w1 wx) ∧ w1.heap.size ≤ gw ∧ w1.heap.size ≤ ge ∧ ge ≠ gw)
    case first =>
      go_region_with (first | (go_at_call 151; refine (effects_any _).mono ?_; rintro e w' ⟨rfl, rfl⟩))
      all_goals
        go_wp2_with fail
        go_meet
        first
          | exact ⟨_, w1.heap.size, w1.heap.size + 1, rfl, (heap3 w1 _ _ _).2.2.1, (heap3 w1 _ _ _).1, (heap3 w1 _ _ _).2.1, (heap3 w1 _ _ _).2.2.2, by omega, by omega, by omega⟩
          | exact ⟨_, w1.heap.size + 1, w1.heap.size, rfl, (heap3 w1 _ _ _).2.2.1, (heap3 w1 _ _ _).2.1, (heap3 w1 _ _ _).1, (heap3 w1 _ _ _).2.2.2, by omega, by omega, by omega⟩
    case rest =>
      obtain ⟨gw, ge, gm, rfl, BW, BE, EM, F2, hgw, hge, hne⟩ := hcut
      have hw0 : w.heap.size < gw := by omega
      have hcs : w1.heap.size ≤ wc.heap.size := F2.out.size
      have B2 := Lib.hid (B1.out.fr F2.out B1.out.lt (by simp))
      have FW := Lib.hid (F1.out.trans (F2.out.mono (B' := w.heap.size) (L' := []) (by omega) (by simp)))
      clear B1 F1 F2 hmk
      go_wp2_with fail
      have hrp := repeat_any (-1) n wc.heap.size hn24 (wc.alloc (.cells #[.int .i64 (-1)] 3)) (by simp) ((Blk.new wc 3 #[.int .i64 (-1)]).cell 0)
      have fa := (Fr.refl wc.heap.size [] wc).alloc (Nat.le_refl _) (.cells #[.int .i64 (-1)] 3)
      have hgd0 : (wc.alloc (.cells #[.int .i64 (-1)] 3)).heap.size = wc.heap.size + 1 := by simp
      refine hrp.mono ?_
      rintro e w3 ⟨rfl, bd, fd⟩
      have f3 := Lib.hid (fa.trans (fd.mono (B' := wc.heap.size) (L' := []) (by omega) (by simp)))
      generalize (wc.alloc (.cells #[.int .i64 (-1)] 3)).heap.size = gd at *
      have hgd1 : wc.heap.size < gd := by omega
      clear hgd0
      have hgwc := BW.out.lt
      have hgec := BE.out.lt
      have hgmc := EM.out.lt
      have BW3 := Lib.hid (BW.out.fr f3.out BW.out.lt (by simp))
      have BE3 := Lib.hid (BE.out.fr f3.out BE.out.lt (by simp))
      have EM3 := Lib.hid (EM.out.fr f3.out EM.out.lt (by simp))
      have B3 := Lib.hid (B2.out.fr f3.out B2.out.lt (by simp))
      have FW3 := Lib.hid (FW.out.trans (f3.out.mono (B' := w.heap.size) (L' := []) (by omega) (by simp)))
      have BD3 := Lib.hid bd
      have c0 := BW3.out.cell 0
      have z0 := BW3.out.frozen 0
      simp at c0
      clear BW BE EM B2 FW fa fd bd hrp f3
      go_upto_region 5 with fail
      have M4 : RowKit.Hid (WMem gw gd ge gm n A c freshS (w3.setCell ⟨gw, 0, none⟩ (.slice (some ⟨gd, 0, none⟩) n n))) :=
        ⟨BW3.out.set_ 0 _, BD3.out.far (p := ⟨gw, 0, none⟩) (by show gd ≠ gw; omega) _, BE3.out.far (p := ⟨gw, 0, none⟩) (by show ge ≠ gw; omega) _, EM3.out.far (p := ⟨gw, 0, none⟩) (EM3.out.ne BW3.out) _, by omega, hne, by omega⟩
      have B4 := Lib.hid (B3.out.far (p := ⟨gw, 0, none⟩) (by show w.heap.size ≠ gw; omega) (.slice (some ⟨gd, 0, none⟩) n n))
      have FW4 := Lib.hid (FW3.out.setCell (p := ⟨gw, 0, none⟩) (.inl (by show w.heap.size ≤ gw; omega)) (.slice (some ⟨gd, 0, none⟩) n n))
      have hgw3 := BW3.out.lt
      have hgd3 := BD3.out.lt
      have hge3 := BE3.out.lt
      have hs4 : (w3.setCell ⟨gw, 0, none⟩ (.slice (some ⟨gd, 0, none⟩) n n)).heap.size = w3.heap.size := by simp [World.setCell]
      generalize w3.setCell ⟨gw, 0, none⟩ (.slice (some ⟨gd, 0, none⟩) n n) = w4 at *
      clear BW3 BD3 BE3 EM3 B3 FW3 c0 z0 hgwc hgec hgmc
      go_wp2_with fail
      have hce := come_any gw gd ge gm n A c freshS 0 0 0 w4 hn24 (Nat.zero_le _) M4.out
      rw [come_start, show ((0 : Nat) : Int) = 0 from rfl] at hce
      refine hce.mono ?_
      rintro e w5 ⟨rfl, hms, f5⟩
      have M5 := Lib.hid (hms _ rfl)
      have B5 := Lib.hid (B4.out.fr f5 B4.out.lt (by simp; omega))
      have FW5 := Lib.hid (FW4.out.trans (f5.mono (B' := w.heap.size) (L' := []) FW4.out.size (by simp; omega)))
      clear hms f5 hce M4 B4 FW4 hs4
      have hgd0w : w.heap.size < gd := by omega
      have hge0 : w.heap.size < ge := by omega
      clear hgw3 hgd3 hge3 hgd1 hcs hgw
      go_wp2_with fail
      go_loopw [29] (fun i wr => ∃ (k : Nat) (sk : CS), k ≤ n ∧ i = .int .i64 k ∧ RowKit.Hid (checkF n (pF l) k = some sk) ∧ RowKit.Hid (WMem gw gd ge gm n A c sk wr) ∧ RowKit.Hid (Blk wr w.heap.size 197 (repC (.slice none 0 0) 0 0 false false)) ∧ RowKit.Hid (Fr w.heap.size [] w wr)) (fun i _ => n - (intOf i).toNat)
      case atStart => exact ⟨0, startF n, Nat.zero_le _, rfl, rfl, M5, B5, FW5⟩
      case round =>
        clear M5 B5 FW5
        obtain ⟨k, sk, hk, rfl, HK, MR, BR, FR⟩ := hrel
        by_cases hlt : k < n
        · have hki : (k : Int) < (n : Int) := by omega
          obtain ⟨i, hx⟩ : ∃ i, l[k]? = some i := ⟨_, List.getElem?_eq_getElem (by rw [← HN.out]; exact hlt)⟩
          have I := checkF_inv hk HK.out
          have x0 := MR.out.blk.cell 0
          have xd := (MR.out.dep.cell k).trans (intsA_get _ hlt)
          simp at x0
          have HNX := Lib.hid (show checkF n (pF l) (k + 1) = if sk.D k = -1 then some sk else stepF n (pF l) sk k by
            show (match checkF n (pF l) k with | none => none | some s => if s.D k = -1 then some s else stepF n (pF l) s k) = _
            rw [HK.out])
          by_cases hd : sk.D k = -1
          · rw [hd] at xd
            rw [if_pos hd] at HNX
            clear I hx hd
            go_wp2_with fail
            go_roundw
            case rel => exact ⟨k + 1, sk, by omega, by go_num, HNX, MR, BR, FR⟩
            case measure => simp [intOf]; omega
          · rw [if_neg hd] at HNX
            have hb1 : (sk.D k != -1) = true := by simpa using hd
            have hre := HR.out.fr FR.out hB (by simp)
            have hst := step_any gw gd ge gm A c B l sk k i wr hre ⟨by omega, by omega, by omega⟩ (by rw [← HN.out]; exact hn24) hx (HRB.out k i hx) (by rw [← HN.out]; exact I) (pF l) (pF_of hx) (by rw [← HN.out]; exact MR.out)
            rw [← HN.out] at hst
            rcases (show stepF n (pF l) sk k = none ∨ ∃ s', stepF n (pF l) sk k = some s' by cases stepF n (pF l) sk k; exact .inl rfl; exact .inr ⟨_, rfl⟩) with hq | ⟨s', hq⟩
            · rw [hq] at hst HNX
              have HST := Lib.hid hst
              have hcn : chkL l = none := by
                have h := checkF_none HNX.out (n - (k + 1))
                rw [show k + 1 + (n - (k + 1)) = n by omega] at h
                rw [HCL.out, ← HN.out]
                exact h
              have HCN := Lib.hid hcn
              clear hq hst hcn hre hx I
              go_wp2_with fail
              refine HST.out.mono ?_
              rintro e w6 ⟨rfl, hms, f6⟩
              have B6 := Lib.hid (BR.out.fr f6 BR.out.lt (by simp; omega))
              have F6 := Lib.hid (FR.out.trans (f6.mono (B' := w.heap.size) (L' := []) FR.out.size (by simp; omega)))
              have c0 := B6.out.cell 0
              have c1 := B6.out.cell 1
              have c2 := B6.out.cell 2
              have c3 := B6.out.cell 3
              have c4 := B6.out.cell 4
              have z0 := B6.out.frozen 0
              have z1 := B6.out.frozen 1
              have z2 := B6.out.frozen 2
              have z3 := B6.out.frozen 3
              have z4 := B6.out.frozen 4
              simp at c0 c1 c2 c3 c4
              clear f6 hms HST
              go_wp2_with fail
              refine bodyPost_ret (results_cell_row_tmp rfl _ _ w.heap.size 197 (repC (.slice none 0 0) 0 0 false false) (0, 0) _ rfl (blk_set5 B6.out _ _ _ _ _) Tryz.underlying197 rfl (by kernel_rfl)) rfl ⟨(fun s h => by rw [HCN.out] at h; cases h), (fun _ => rfl), fr_set5 F6.out (.inl (Nat.le_refl _)) _ _ _ _ _⟩
            · rw [hq] at hst HNX
              have HST := Lib.hid hst
              clear hq hst hre hx I
              go_wp2_with fail
              refine HST.out.mono ?_
              rintro e w6 ⟨rfl, hms, f6⟩
              have B6 := Lib.hid (BR.out.fr f6 BR.out.lt (by simp; omega))
              have F6 := Lib.hid (FR.out.trans (f6.mono (B' := w.heap.size) (L' := []) FR.out.size (by simp; omega)))
              have M6 := Lib.hid (hms s' rfl)
              clear f6 hms HST
              go_wp2_with fail
              go_roundw
              case rel => exact ⟨k + 1, s', by omega, by go_num, HNX, M6, B6, F6⟩
              case measure => simp [intOf]; omega
        · obtain rfl : n = k := by omega
          have hcs : chkL l = some sk := by rw [HCL.out, ← HN.out]; exact HK.out
          have HCS := Lib.hid hcs
          have c0 := BR.out.cell 0
          have c1 := BR.out.cell 1
          have c2 := BR.out.cell 2
          have c3 := BR.out.cell 3
          have c4 := BR.out.cell 4
          have z0 := BR.out.frozen 0
          have z1 := BR.out.frozen 1
          have z2 := BR.out.frozen 2
          have z3 := BR.out.frozen 3
          have z4 := BR.out.frozen 4
          have v0 := MR.out.blk.cell 0
          have v1 := MR.out.blk.cell 1
          have v2 := MR.out.blk.cell 2
          have v3 := MR.out.blk.cell 3
          have v4 := MR.out.blk.cell 4
          simp at c0 c1 c2 c3 c4 v0 v1 v2 v3 v4
          clear hcs
          go_wp2_with fail
          refine bodyPost_ret (results_cell_row_tmp rfl _ _ w.heap.size 197 (repC (.slice (some ⟨gd, 0, none⟩) n n) sk.mx sk.em sk.u0 sk.u1) (0, 0) _ rfl (blk_set5 BR.out _ _ _ _ _) Tryz.underlying197 rfl (by kernel_rfl)) rfl ⟨(fun s h => ?_), (fun h => by rw [HCS.out] at h; cases h), fr_set5 FR.out (.inl (Nat.le_refl _)) _ _ _ _ _⟩
          rw [HCS.out] at h
          injection h with h
          subst h
          refine ⟨gd, by rw [HN.out]; rfl, Nat.le_of_lt hgd0w, ?_⟩
          rw [← HN.out]
          have hg : ∀ j, gd ≠ (⟨w.heap.size, j, none⟩ : Addr).block := fun j => by show gd ≠ w.heap.size; omega
          exact ((((MR.out.dep.far (hg 0) _).far (hg 1) _).far (hg 2) _).far (hg 3) _).far (hg 4) _
end Go.Proofs.YthfibggbipkmfaaGreat
namespace Go.Proofs.YthfibggbipkmfaaGreat
open Go.RowKit Go.Fb
/-- A report that lies in memory. -/
abbrev repV (gd n : Nat) (s : CS) : Array Value := #[.slice (some ⟨gd, 0, none⟩) n n, .int .i64 s.mx, .int .i64 s.em, .bool s.u0, .bool s.u1]
def ChkYes (n : Nat) (s : CS) (w : World) (e : Ending) (w' : World) : Prop :=
  ∃ gd, e = .returned (.tuple #[.agg (repV gd n s), .int .i64 0]) ∧ w.heap.size ≤ gd ∧ Blk w' gd 3 (intsA n s.D) ∧ Fr w.heap.size [] w w'
theorem check_yes {A : Option Addr} {c B : Nat} {l : List (Int × Int)} {s : CS} {w : World} (hr : Reads w B 2 A l.length (cellsI l)) (hB : B ≤ w.heap.size) (hn : l.length ≤ maxLen) (h : chkL l = some s) :
    Calls Tryz.prog 126 #[.slice A l.length c] w (ChkYes l.length s w) :=
  (check_any A c B l w hr hB hn).mono fun e w' ⟨h1, _, h3⟩ => by
    obtain ⟨gd, a, b, d⟩ := h1 s h
    exact ⟨gd, a, b, d, h3⟩
theorem check_no {A : Option Addr} {c B : Nat} {l : List (Int × Int)} {w : World} (hr : Reads w B 2 A l.length (cellsI l)) (hB : B ≤ w.heap.size) (hn : l.length ≤ maxLen) (h : chkL l = none) :
    Calls Tryz.prog 126 #[.slice A l.length c] w fun e w' => e = .returned (.tuple #[.agg #[.slice none 0 0, .int .i64 0, .int .i64 0, .bool false, .bool false], .int .i64 9]) ∧ Fr w.heap.size [] w w' :=
  (check_any A c B l w hr hB hn).mono fun _ _ ⟨_, h2, h3⟩ => ⟨h2 h, h3⟩
set_option maxRecDepth 100000 in
theorem safe_yes {A : Option Addr} {c B : Nat} {l : List (Int × Int)} {s : CS} {w : World} (hr : Reads w B 2 A l.length (cellsI l)) (hB : B ≤ w.heap.size) (hn : l.length ≤ maxLen) (h : chkL l = some s) :
    Calls Tryz.prog 97 #[.slice A l.length c] w fun e w' => e = .returned (.bool true) ∧ Fr w.heap.size [] w w' := by
  have H := Lib.hid (check_yes (c := c) hr hB hn h)
  clear hr hB hn h
  generalize l.length = n at *
  go_enter Tryz.func97, Tryz.ntmps97
  go_wp2_with fail
  refine H.out.mono ?_
  rintro e w1 ⟨gd, rfl, _, _, f1⟩
  have F1 := Lib.hid f1
  clear f1
  go_wp2_with fail
  go_ret
  exact ⟨rfl, F1.out.alloc F1.out.size _⟩
set_option maxRecDepth 100000 in
theorem safe_no {A : Option Addr} {c B : Nat} {l : List (Int × Int)} {w : World} (hr : Reads w B 2 A l.length (cellsI l)) (hB : B ≤ w.heap.size) (hn : l.length ≤ maxLen) (h : chkL l = none) :
    Calls Tryz.prog 97 #[.slice A l.length c] w fun e w' => e = .returned (.bool false) ∧ Fr w.heap.size [] w w' := by
  have H := Lib.hid (check_no (c := c) hr hB hn h)
  clear hr hB hn h
  generalize l.length = n at *
  go_enter Tryz.func97, Tryz.ntmps97
  go_wp2_with fail
  refine H.out.mono ?_
  rintro e w1 ⟨rfl, f1⟩
  have F1 := Lib.hid f1
  clear f1
  go_wp2_with fail
  go_ret
  exact ⟨rfl, F1.out.alloc F1.out.size _⟩
end Go.Proofs.YthfibggbipkmfaaGreat
namespace Go.Fb
open Go.RowKit
theorem own_prefix {w : World} {base e size n g c : Nat} {xs : List Value} (h : w.ownsRow base e size (.slice (some ⟨g, 0, none⟩) n c) n xs) (k : Nat) (hk : k ≤ n) :
    w.ownsRow base e size (.slice (some ⟨g, 0, none⟩) k c) k (xs.take (k * size)) := by
  obtain ⟨hl, hc⟩ := h
  have hks : k * size ≤ n * size := Nat.mul_le_mul_right _ hk
  refine ⟨by rw [List.length_take]; omega, .inr ?_⟩
  rcases hc with ⟨hn, _⟩ | ⟨g', cap, cur, hv, hb, hg, h1, h2, h3, h4⟩
  · cases hn
  · injection hv with hv1 hv2 hv3
    injection hv1 with hv1
    injection hv1 with hv1
    subst hv1
    subst hv3
    refine ⟨g, c, cur, rfl, hb, hg, by omega, h2, h3, ?_⟩
    rw [← h4, List.take_take, Nat.min_eq_left hks]
/-- append where there is room, at a step of a region that draws its order. -/
theorem step_fits {P : Program} {w : World} {ops : Array Oper} {o : Oper} {a : Act} {K : Act → World → Prop} {Q : Exit → Act → World → Prop} {E : Prop} (hgd : o.guard = none) (s x : Operand) {t e size bytes : Nat} (T : SliceTy P t e size bytes)
    (ho : o.op = .call { callee := .builtin .append, args := #[s, x], argTypes := #[t, t] })
    (base g k c : Nat) (xs : List Value) (hs : a.eval s = .slice (some ⟨g, 0, none⟩) k c) (hown : w.ownsRow base e size (.slice (some ⟨g, 0, none⟩) k c) k xs)
    (ad : Addr) (m d : Nat) (news : List Value) (hx : a.eval x = .slice (some ad) m d) (hl : news.length = m * size) (hc : ∀ j u, news[j]? = some u → w.cell? (ad.add j) = some u) (h1 : ∀ u ∈ news, u.oneCell' = true) (hroom : k + m ≤ c)
    (h : ∀ w', w'.ownsRow base e size (.slice (some ⟨g, 0, none⟩) (k + m) c) (k + m) (xs ++ news) → w.grownBy w' (some g) → K (a.put o.dst (.slice (some ⟨g, 0, none⟩) (k + m) c)) w') :
    if Region.wanted o (yielded ops a.tmps) = true then Oper.wp P o a w K Q else E := by
  have hw : Region.wanted o (yielded ops a.tmps) = true := by simp [Region.wanted, hgd]
  rw [if_pos hw]
  obtain ⟨i, z, hi, hz, hsize, hby, hzs⟩ := T.hi
  obtain ⟨w', hrun, h2, h3⟩ := run_append_fits (P := P) w base t o.type e i size T.ht hi hsize g k c xs hown ad m d news hl hc h1 hroom
  unfold Oper.wp
  simp [execOp, ho, resolve, invoke, builtin, hs, hx, hrun, Result.andThen]
  exact h w' h2 h3
/-- What clear does behind the elements of an owned row. -/
theorem run_clear_behind {P : Program} {w : World} {base g c i m : Nat} {xs : List Value} {t e size bytes : Nat} (T : SliceTy P t e size bytes) (z : Value) (hz : (zeroValue e).run P w = .ok z w) (hzs : z.cells.size = size) (hz1 : ∀ u ∈ z.cells, u.oneCell' = true)
    (hown : w.ownsRow base e size (.slice (some ⟨g, 0, none⟩) i c) i xs) (hm : i + m ≤ c) (ty : TypeId) (cc : Nat) :
    ∃ w', (Builtin.clear_ #[t] ty #[.slice (some ⟨g, i * size, none⟩) m cc]).run P w = .ok (.tuple #[]) w' ∧ w'.ownsRow base e size (.slice (some ⟨g, 0, none⟩) i c) i xs ∧ Fr w.heap.size [g] w w' := by
  rcases Nat.eq_zero_or_pos m with h0 | h0
  · subst h0
    refine ⟨w, ?_, hown, Fr.refl _ _ _⟩
    simp [Builtin.clear_, run_underlying T.ht]
  have hsp := T.pos
  obtain ⟨hl, hcs⟩ := hown
  rcases hcs with ⟨h0, _⟩ | ⟨g', cap, cur, hv, hb, hg, h1, h2, h3, h4⟩
  · cases h0
  · injection hv with hv1 hv2 hv3
    injection hv1 with hv1
    injection hv1 with hv1
    subst hv1
    subst hv3
    have hzl : (Builtin.zeroCells z.cells m).toList.length = m * size := by simp [Builtin.zeroCells, hzs]
    have hzo : ∀ v ∈ (Builtin.zeroCells z.cells m).toList, v.oneCell' = true := by
      intro v hv
      simp only [Builtin.zeroCells, Array.toList_map, List.mem_map] at hv
      obtain ⟨j, _, rfl⟩ := hv
      have hlt : j % z.cells.size < z.cells.size := Nat.mod_lt _ (by omega)
      rw [show z.cells[j % z.cells.size]! = z.cells[j % z.cells.size] by simp [hlt]]
      exact hz1 _ (Array.getElem_mem hlt)
    have hle : (i + m) * size ≤ c * size := Nat.mul_le_mul_right _ hm
    rw [Nat.add_mul] at hle
    obtain ⟨zs, hzs'⟩ : ∃ zs, zs = (Builtin.zeroCells z.cells m).toList := ⟨_, rfl⟩
    have hst := run_storeCells_at (P := P) g (i * size) e zs 0 cur w hg (by rw [hzs', hzl, h3]; omega) (by rw [hzs']; exact hzo)
    rw [← hzs'] at hzl
    obtain ⟨cs', hcs⟩ : ∃ cs' : Array Value, cs' = (cur.toList.take (i * size + 0) ++ zs ++ cur.toList.drop (i * size + 0 + zs.length)).toArray := ⟨_, rfl⟩
    rw [← hcs] at hst
    have hsz : cs'.size = cur.size := by
      rw [hcs]
      simp only [List.size_toArray, List.length_append, List.length_take, List.length_drop, Array.length_toList]
      omega
    refine ⟨w.setRow g cs', ?_, ⟨hl, .inr ⟨g, c, cs', rfl, hb, setRow_heap w g cur cs' e (0, 0) hg, h1, h2, by rw [hsz]; exact h3, ?_⟩⟩, ⟨rfl, rfl, rfl, by simp, fun k _ hk => setRow_other w g k cs' (by simpa using hk)⟩⟩
    · obtain ⟨q, hq⟩ : ∃ q, m = q + 1 := ⟨m - 1, by omega⟩
      rw [hq] at hzs' ⊢
      simp [Builtin.clear_, run_underlying T.ht, hz]
      rw [← hzs', hst]
      rfl
    · rw [hcs, ← h4, List.append_assoc, Nat.add_zero, List.take_append_of_le_length (by rw [List.length_take, Array.length_toList, h3]; omega), List.take_take, Nat.min_self]
end Go.Fb
namespace Go.Proofs.YthfibggbipkmfaaGreat
open Go.RowKit Go.Fb

end Go.Proofs.YthfibggbipkmfaaGreat
