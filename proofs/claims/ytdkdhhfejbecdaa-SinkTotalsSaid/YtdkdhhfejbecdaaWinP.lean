/- Plain law of SinkWindows: what is added one by one, and the totals. -/
import Derived.Test.YtdkdhhfejbecdaaWin
import Derived.Test.YtdkdhhfejbecdaaTotals
namespace Go.Proofs.Ytdkdhhfejbecdaa
open Go.RowKit Go.Fb
/-- The sum of those of the last ones that have come so far. -/
def winAt (v : List (Int × Int)) (many : Int) (k : Nat) : Int × Int := sumV ((v.take k).drop (v.length - min (max many 0).toNat v.length))
theorem winAt_zero (v : List (Int × Int)) (many : Int) : winAt v many 0 = (0, 0) := by simp [winAt, sumV]
theorem winAt_end (v : List (Int × Int)) (many : Int) : winAt v many v.length = winV v many := by simp [winAt, winV]
theorem take_snoc {v : List (Int × Int)} {k : Nat} {x : Int × Int} (h : v[k]? = some x) : v.take (k + 1) = v.take k ++ [x] := by rw [List.take_add_one, h]; rfl
theorem winAt_yes {v : List (Int × Int)} {many : Int} {k : Nat} {x : Int × Int} (h : v[k]? = some x) (h1 : 0 < many) (h2 : (v.length : Int) - k ≤ many) : winAt v many (k + 1) = addV (winAt v many k) x := by
  have hk : k < v.length := by
    rcases Nat.lt_or_ge k v.length with c | c
    · exact c
    · rw [List.getElem?_eq_none c] at h; cases h
  unfold winAt
  rw [take_snoc h, List.drop_append_of_le_length (by rw [List.length_take]; omega), sumV_snoc]
theorem winAt_no {v : List (Int × Int)} {many : Int} {k : Nat} (hk : k < v.length) (h : ¬ 0 < many ∨ ¬ (v.length : Int) - k ≤ many) : winAt v many (k + 1) = winAt v many k := by
  unfold winAt
  rw [List.drop_eq_nil_of_le (by rw [List.length_take]; omega), List.drop_eq_nil_of_le (by rw [List.length_take]; omega)]
theorem sumV_take {v : List (Int × Int)} {k : Nat} {x : Int × Int} (h : v[k]? = some x) : sumV (v.take (k + 1)) = addV (sumV (v.take k)) x := by rw [take_snoc h, sumV_snoc]
/-- A total of the one that was asked for is the sum of all. -/
theorem tot_ask {l : List (Nat → Int)} {K : List Pl} {L : List (Nat → Int)} (hp : L.Perm (K.map (totF l))) {x : Nat → Int} (hx : x ∈ L) {s f k : Int} (h0 : x 0 = s) (h1 : x 1 = f) (h2 : x 2 = k) : x 4 = (sumV (onlyV l (s, f, k))).1 ∧ x 5 = (sumV (onlyV l (s, f, k))).2 := by
  obtain ⟨p, _, rfl⟩ := List.mem_map.1 (hp.mem_iff.1 hx)
  obtain ⟨a, b, c⟩ := p
  simp only [totF] at h0 h1 h2
  simp at h0 h1 h2
  subst h0 h1 h2
  simp [totF]
/-- No more keys than lines. -/
theorem keys_le {l : List (Nat → Int)} {K : List Pl} (h : KeysOk l K) : K.length ≤ l.length := by
  have : K.length ≤ (l.map keyL).length := nodup_le h.nd fun p hp => by
    have h1 := (h.mem p).1 hp
    unfold onlyV at h1
    rw [ne_eq, List.map_eq_nil_iff, List.filter_eq_nil_iff] at h1
    simp only [decide_eq_true_eq] at h1
    refine Classical.byContradiction fun hc => h1 fun x hx he => hc ?_
    exact List.mem_map.2 ⟨x, hx, he⟩
  rwa [List.length_map] at this
theorem reads_tot {w : World} {B : Nat} {A : Option Addr} {L : List (Nat → Int)} (h : Reads w B 6 A L.length (L.flatMap totC)) {k : Nat} {x : Nat → Int} (hx : L[k]? = some x) :
    ∃ b off, A = some ⟨b, off, none⟩ ∧ b < B ∧ ∀ j, j < 6 → w.cell? ⟨b, off + k * 6 + j, none⟩ = some (.int .i64 (x j)) := by
  have hk : k < L.length := by
    rcases Nat.lt_or_ge k L.length with c | c
    · exact c
    · rw [List.getElem?_eq_none c] at hx; cases hx
  obtain ⟨b, off, e, hb, hc⟩ := h.2 (by omega)
  refine ⟨b, off, e, hb, fun j hj => ?_⟩
  rw [Nat.add_assoc]
  refine hc (k * 6 + j) _ ?_
  rw [flat_get L _ (by omega), show (k * 6 + j) / 6 = k by omega, show (k * 6 + j) % 6 = j by omega]
  have hL : L[k]! = x := by rw [List.getElem!_eq_getElem?_getD, hx]; rfl
  rw [hL]
  match j, hj with
  | 0, _ => rfl
  | 1, _ => rfl
  | 2, _ => rfl
  | 3, _ => rfl
  | 4, _ => rfl
  | 5, _ => rfl
end Go.Proofs.Ytdkdhhfejbecdaa
