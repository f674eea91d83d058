/- Texts merged into one, for the number of files a claim may have: Del. -/
import Derived.Test.YtfakgidimekikaaMA
import Derived.Laws.CopyRow
namespace Go.Fb
open Go.RowKit
theorem own_prefix {w : World} {base e size n g c : Nat} {xs : List Value} (h : w.ownsRow base e size (.slice (some ⟨g, 0, none⟩) n c) n xs) (k : Nat) (hk : k ≤ n) :
    w.ownsRow base e size (.slice (some ⟨g, 0, none⟩) k c) k (xs.take (k * size)) := by
  obtain ⟨hl, hc⟩ := h
  have hks : k * size ≤ n * size := Nat.mul_le_mul_right _ hk
  refine ⟨by rw [List.length_take]; omega, .inr ?_⟩
  rcases hc with ⟨hn, _⟩ | ⟨g', cap, cur, hv, hb, hg, h1, h2, h3, h4⟩
  · cases hn
  · injection hv with hv1 hv2 hv3
    injection hv1 with hv1
    injection hv1 with hv1
    subst hv1
    subst hv3
    refine ⟨g, c, cur, rfl, hb, hg, by omega, h2, h3, ?_⟩
    rw [← h4, List.take_take, Nat.min_eq_left hks]
/-- append where there is room, at a step of a region that draws its order. -/
theorem step_fits {P : Program} {w : World} {ops : Array Oper} {o : Oper} {a : Act} {K : Act → World → Prop} {Q : Exit → Act → World → Prop} {E : Prop} (hgd : o.guard = none) (s x : Operand) {t e size bytes : Nat} (T : SliceTy P t e size bytes)
    (ho : o.op = .call { callee := .builtin .append, args := #[s, x], argTypes := #[t, t] })
    (base g k c : Nat) (xs : List Value) (hs : a.eval s = .slice (some ⟨g, 0, none⟩) k c) (hown : w.ownsRow base e size (.slice (some ⟨g, 0, none⟩) k c) k xs)
    (ad : Addr) (m d : Nat) (news : List Value) (hx : a.eval x = .slice (some ad) m d) (hl : news.length = m * size) (hc : ∀ j u, news[j]? = some u → w.cell? (ad.add j) = some u) (h1 : ∀ u ∈ news, u.oneCell' = true) (hroom : k + m ≤ c)
    (h : ∀ w', w'.ownsRow base e size (.slice (some ⟨g, 0, none⟩) (k + m) c) (k + m) (xs ++ news) → w.grownBy w' (some g) → K (a.put o.dst (.slice (some ⟨g, 0, none⟩) (k + m) c)) w') :
    if Region.wanted o (yielded ops a.tmps) = true then Oper.wp P o a w K Q else E := by
  have hw : Region.wanted o (yielded ops a.tmps) = true := by simp [Region.wanted, hgd]
  rw [if_pos hw]
  obtain ⟨i, z, hi, hz, hsize, hby, hzs⟩ := T.hi
  obtain ⟨w', hrun, h2, h3⟩ := run_append_fits (P := P) w base t o.type e i size T.ht hi hsize g k c xs hown ad m d news hl hc h1 hroom
  unfold Oper.wp
  simp [execOp, ho, resolve, invoke, builtin, hs, hx, hrun, Result.andThen]
  exact h w' h2 h3
/-- What clear does behind the elements of an owned row. -/
theorem run_clear_behind {P : Program} {w : World} {base g c i m : Nat} {xs : List Value} {t e size bytes : Nat} (T : SliceTy P t e size bytes) (z : Value) (hz : (zeroValue e).run P w = .ok z w) (hzs : z.cells.size = size) (hz1 : ∀ u ∈ z.cells, u.oneCell' = true)
    (hown : w.ownsRow base e size (.slice (some ⟨g, 0, none⟩) i c) i xs) (hm : i + m ≤ c) (ty : TypeId) (cc : Nat) :
    ∃ w', (Builtin.clear_ #[t] ty #[.slice (some ⟨g, i * size, none⟩) m cc]).run P w = .ok (.tuple #[]) w' ∧ w'.ownsRow base e size (.slice (some ⟨g, 0, none⟩) i c) i xs ∧ Fr w.heap.size [g] w w' := by
  rcases Nat.eq_zero_or_pos m with h0 | h0
  · subst h0
    refine ⟨w, ?_, hown, Fr.refl _ _ _⟩
    simp [Builtin.clear_, run_underlying T.ht]
  have hsp := T.pos
  obtain ⟨hl, hcs⟩ := hown
  rcases hcs with ⟨h0, _⟩ | ⟨g', cap, cur, hv, hb, hg, h1, h2, h3, h4⟩
  · cases h0
  · injection hv with hv1 hv2 hv3
    injection hv1 with hv1
    injection hv1 with hv1
    subst hv1
    subst hv3
    have hzl : (Builtin.zeroCells z.cells m).toList.length = m * size := by simp [Builtin.zeroCells, hzs]
    have hzo : ∀ v ∈ (Builtin.zeroCells z.cells m).toList, v.oneCell' = true := by
      intro v hv
      simp only [Builtin.zeroCells, Array.toList_map, List.mem_map] at hv
      obtain ⟨j, _, rfl⟩ := hv
      have hlt : j % z.cells.size < z.cells.size := Nat.mod_lt _ (by omega)
      rw [show z.cells[j % z.cells.size]! = z.cells[j % z.cells.size] by simp [hlt]]
      exact hz1 _ (Array.getElem_mem hlt)
    have hle : (i + m) * size ≤ c * size := Nat.mul_le_mul_right _ hm
    rw [Nat.add_mul] at hle
    obtain ⟨zs, hzs'⟩ : ∃ zs, zs = (Builtin.zeroCells z.cells m).toList := ⟨_, rfl⟩
    have hst := run_storeCells_at (P := P) g (i * size) e zs 0 cur w hg (by rw [hzs', hzl, h3]; omega) (by rw [hzs']; exact hzo)
    rw [← hzs'] at hzl
    obtain ⟨cs', hcs⟩ : ∃ cs' : Array Value, cs' = (cur.toList.take (i * size + 0) ++ zs ++ cur.toList.drop (i * size + 0 + zs.length)).toArray := ⟨_, rfl⟩
    rw [← hcs] at hst
    have hsz : cs'.size = cur.size := by
      rw [hcs]
      simp only [List.size_toArray, List.length_append, List.length_take, List.length_drop, Array.length_toList]
      omega
    refine ⟨w.setRow g cs', ?_, ⟨hl, .inr ⟨g, c, cs', rfl, hb, setRow_heap w g cur cs' e (0, 0) hg, h1, h2, by rw [hsz]; exact h3, ?_⟩⟩, ⟨rfl, rfl, rfl, by simp, fun k _ hk => setRow_other w g k cs' (by simpa using hk)⟩⟩
    · obtain ⟨q, hq⟩ : ∃ q, m = q + 1 := ⟨m - 1, by omega⟩
      rw [hq] at hzs' ⊢
      simp [Builtin.clear_, run_underlying T.ht, hz]
      rw [← hzs', hst]
      rfl
    · rw [hcs, ← h4, List.append_assoc, Nat.add_zero, List.take_append_of_le_length (by rw [List.length_take, Array.length_toList, h3]; omega), List.take_take, Nat.min_self]
end Go.Fb
