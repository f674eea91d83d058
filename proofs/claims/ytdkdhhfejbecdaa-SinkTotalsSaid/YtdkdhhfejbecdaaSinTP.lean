/- Plain law of SinkTotals: going through all sinks, Froms and keys makes the totals, in order. -/
import Derived.Test.YtdkdhhfejbecdaaWinP
import Derived.Test.YtdkdhhfejbecdaaSinks
namespace Go.Proofs.Ytdkdhhfejbecdaa
open Go.RowKit Go.Fb
/-- Place number t of the threefold loop. -/
def tri (t : Nat) : Pl := ((t / 512 : Nat), ((t / 64 % 8 : Nat), (t % 64 : Nat)))
theorem tri_of {s f k : Nat} (hf : f < 8) (hk : k < 64) : tri (s * 512 + f * 64 + k) = ((s : Int), ((f : Int), (k : Int))) := by
  unfold tri
  have h1 : (s * 512 + f * 64 + k) / 512 = s := by omega
  have h2 : (s * 512 + f * 64 + k) / 64 % 8 = f := by omega
  have h3 : (s * 512 + f * 64 + k) % 64 = k := by omega
  rw [h1, h2, h3]
/-- Does place t have lines? -/
def hasT (l : List (Nat → Int)) (t : Nat) : Bool := !(onlyV l (tri t)).isEmpty
def keysT (l : List (Nat → Int)) (t : Nat) : List Pl := ((List.range t).filter (hasT l)).map tri
def wantT (l : List (Nat → Int)) (t : Nat) : List (Nat → Int) := (keysT l t).map (totF l)
theorem wantT_zero (l : List (Nat → Int)) : wantT l 0 = [] := rfl
theorem wantT_no {l : List (Nat → Int)} {t : Nat} (h : (onlyV l (tri t)).length = 0) : wantT l (t + 1) = wantT l t := by
  have : hasT l t = false := by simp [hasT, List.eq_nil_of_length_eq_zero h]
  unfold wantT keysT
  rw [List.range_succ, List.filter_append]
  simp [this]
theorem wantT_yes {l : List (Nat → Int)} {t : Nat} (h : (onlyV l (tri t)).length ≠ 0) : wantT l (t + 1) = wantT l t ++ [totF l (tri t)] := by
  have : hasT l t = true := by
    simp [hasT]
    intro e
    rw [e] at h
    exact h rfl
  unfold wantT keysT
  rw [List.range_succ, List.filter_append]
  simp [this]
theorem wantT_le (l : List (Nat → Int)) (t : Nat) : (wantT l t).length ≤ t := by
  unfold wantT keysT
  rw [List.length_map, List.length_map]
  exact Nat.le_trans (List.length_filter_le _ _) (by simp)
/-- Has sink s lines, of the places from its first one up to t? -/
def hasS (l : List (Nat → Int)) (s t : Nat) : Bool := (List.range t).any fun i => decide (s * 512 ≤ i) && hasT l i
theorem hasS_start (l : List (Nat → Int)) (s : Nat) : hasS l s (s * 512) = false := by
  simp only [hasS, List.any_eq_false, List.mem_range]
  intro i hi
  simp; intro h; omega
theorem hasS_no {l : List (Nat → Int)} {s t : Nat} (h : (onlyV l (tri t)).length = 0) : hasS l s (t + 1) = hasS l s t := by
  have : hasT l t = false := by simp [hasT, List.eq_nil_of_length_eq_zero h]
  unfold hasS
  rw [List.range_succ, List.any_append]
  simp [this]
theorem hasS_yes {l : List (Nat → Int)} {s t : Nat} (h : (onlyV l (tri t)).length ≠ 0) (hs : s * 512 ≤ t) : hasS l s (t + 1) = true := by
  have : hasT l t = true := by
    simp [hasT]
    intro e
    rw [e] at h
    exact h rfl
  unfold hasS
  rw [List.range_succ, List.any_append]
  simp [this, hs]
/-- The sinks below s that have lines. -/
def snkT (l : List (Nat → Int)) (s : Nat) : List Int := ((List.range s).filter fun i => hasS l i ((i + 1) * 512)).map fun i => ((i : Nat) : Int)
theorem snkT_zero (l : List (Nat → Int)) : snkT l 0 = [] := rfl
theorem snkT_succ (l : List (Nat → Int)) (s : Nat) : snkT l (s + 1) = snkT l s ++ (if hasS l s ((s + 1) * 512) = true then [((s : Nat) : Int)] else []) := by
  unfold snkT
  rw [List.range_succ, List.filter_append]
  by_cases c : hasS l s ((s + 1) * 512) = true
  · simp [c]
  · simp [c]
theorem snkT_le (l : List (Nat → Int)) (s : Nat) : (snkT l s).length ≤ s := by
  unfold snkT
  rw [List.length_map]
  exact Nat.le_trans (List.length_filter_le _ _) (by simp)
/-- A line of a book is right: its place is among those that are gone through. -/
theorem place_of {x : Nat → Int} (h : lineB x = true) : ∃ t, t < 4096 ∧ tri t = keyL x := by
  unfold lineB numB at h
  simp only [Bool.and_eq_true, decide_eq_true_eq] at h
  obtain ⟨⟨a0, a1⟩, ⟨b0, b1⟩, ⟨c0, c1⟩, _⟩ := h
  obtain ⟨s, hs⟩ : ∃ s : Nat, (s : Int) = x 0 := ⟨(x 0).toNat, by omega⟩
  obtain ⟨f, hf⟩ : ∃ f : Nat, (f : Int) = x 1 := ⟨(x 1).toNat, by omega⟩
  obtain ⟨k, hk⟩ : ∃ k : Nat, (k : Int) = x 2 := ⟨(x 2).toNat, by omega⟩
  refine ⟨s * 512 + f * 64 + k, by omega, ?_⟩
  rw [tri_of (by omega) (by omega), hs, hf, hk]
  rfl
theorem tri_inj {a b : Nat} (h : tri a = tri b) : a = b := by
  unfold tri at h
  simp only [Prod.mk.injEq] at h
  omega
theorem only_has {l : List (Nat → Int)} {p : Pl} : onlyV l p ≠ [] ↔ ∃ x ∈ l, keyL x = p := by
  unfold onlyV
  rw [ne_eq, List.map_eq_nil_iff, List.filter_eq_nil_iff]
  constructor
  · intro h
    refine Classical.byContradiction fun hc => h fun x hx he => hc ⟨x, hx, by simpa using he⟩
  · rintro ⟨x, hx, he⟩ h
    exact h x hx (by simpa using he)
theorem hasT_iff {l : List (Nat → Int)} {t : Nat} : hasT l t = true ↔ onlyV l (tri t) ≠ [] := by
  unfold hasT
  cases onlyV l (tri t) <;> simp
theorem keysT_ok {l : List (Nat → Int)} (h : l.all lineB = true) : KeysOk l (keysT l 4096) := by
  refine ⟨?_, fun p => ?_⟩
  · unfold keysT
    rw [List.nodup_iff_pairwise_ne, List.pairwise_map]
    have hr : ((List.range 4096).filter (hasT l)).Pairwise (· < ·) := List.Pairwise.filter _ List.pairwise_lt_range
    exact hr.imp fun hab e => by have := tri_inj e; omega
  · unfold keysT
    simp only [List.mem_map, List.mem_filter, List.mem_range]
    constructor
    · rintro ⟨t, ⟨_, ht⟩, rfl⟩
      exact hasT_iff.1 ht
    · intro hp
      obtain ⟨x, hx, he⟩ := only_has.1 hp
      obtain ⟨t, ht, htr⟩ := place_of (List.all_eq_true.1 h x hx)
      exact ⟨t, ⟨ht, hasT_iff.2 (by rw [htr, he]; exact hp)⟩, by rw [htr, he]⟩
theorem snkT_mem {l : List (Nat → Int)} (h : l.all lineB = true) (x : Int) : x ∈ snkT l 8 ↔ x ∈ sinksL l := by
  rw [sinksL_mem]
  unfold snkT
  simp only [List.mem_map, List.mem_filter, List.mem_range]
  constructor
  · rintro ⟨s, ⟨_, hs⟩, rfl⟩
    unfold hasS at hs
    simp only [List.any_eq_true, List.mem_range, Bool.and_eq_true, decide_eq_true_eq] at hs
    obtain ⟨i, hi, h1, h2⟩ := hs
    obtain ⟨y, hy, he⟩ := only_has.1 (hasT_iff.1 h2)
    refine ⟨y, hy, ?_⟩
    have : (keyL y).1 = (tri i).1 := by rw [he]
    unfold keyL tri at this
    simp only at this
    omega
  · rintro ⟨y, hy, rfl⟩
    obtain ⟨t, ht, htr⟩ := place_of (List.all_eq_true.1 h y hy)
    have h0 : (keyL y).1 = (tri t).1 := by rw [htr]
    unfold keyL at h0
    simp only [tri] at h0
    refine ⟨t / 512, ⟨by omega, ?_⟩, by omega⟩
    unfold hasS
    simp only [List.any_eq_true, List.mem_range, Bool.and_eq_true, decide_eq_true_eq]
    exact ⟨t, by omega, by omega, hasT_iff.2 (only_has.2 ⟨y, hy, htr.symm⟩)⟩
theorem snkT_eq {l : List (Nat → Int)} (h : l.all lineB = true) : snkT l 8 = sinksL l := by
  refine rises_eq ?_ (sinksL_rises l) (snkT_mem h)
  unfold snkT
  rw [List.pairwise_map]
  have hr : ((List.range 8).filter fun i => hasS l i ((i + 1) * 512)).Pairwise (· < ·) := List.Pairwise.filter _ List.pairwise_lt_range
  exact hr.imp fun hab => by omega
/-- Two lists of totals, each in its order, one a permutation of the other. -/
theorem lt_tot {l : List (Nat → Int)} {a b : Nat} (h : a < b) : ltOf cfT (totF l (tri a)) (totF l (tri b)) = true := by
  rw [ltT]
  simp [totF, tri]
  omega
theorem sorted_eq {l : List (Nat → Int)} : ∀ {ts : List Nat} {L : List (Nat → Int)}, ts.Pairwise (· < ·) → L.Perm (ts.map fun t => totF l (tri t)) → (∀ i j, i < j → j < L.length → ltOf cfT L[j]! L[i]! = false) → L = ts.map fun t => totF l (tri t)
  | [], L, _, hp, _ => by simpa using hp
  | t :: ts, [], _, hp, _ => by simp at hp
  | t :: ts, y :: L, ht, hp, hs => by
    rw [List.pairwise_cons] at ht
    have hy : y = totF l (tri t) := by
      have hmem : totF l (tri t) ∈ y :: L := hp.mem_iff.2 (by simp)
      rcases List.mem_cons.1 hmem with e | e
      · exact e.symm
      · obtain ⟨i, hi, hie⟩ := List.mem_iff_getElem.1 e
        have h1 := hs 0 (i + 1) (by omega) (by simp; omega)
        rw [getElem!_pos _ (i + 1) (by simp; omega), getElem!_pos _ 0 (by simp)] at h1
        simp only [List.getElem_cons_succ, List.getElem_cons_zero] at h1
        rw [hie] at h1
        have hy2 : y ∈ (t :: ts).map fun t => totF l (tri t) := hp.mem_iff.1 (by simp)
        obtain ⟨u, hu, rfl⟩ := List.mem_map.1 hy2
        rcases List.mem_cons.1 hu with e2 | e2
        · rw [e2]
        · rw [lt_tot (ht.1 u e2)] at h1; cases h1
    subst hy
    rw [List.map_cons]
    congr 1
    refine sorted_eq ht.2 ?_ fun i j hij hj => ?_
    · rw [List.map_cons] at hp
      exact hp.cons_inv
    · have := hs (i + 1) (j + 1) (by omega) (by simp; omega)
      rw [getElem!_pos _ (j + 1) (by simp; omega), getElem!_pos _ (i + 1) (by simp; omega)] at this
      rw [getElem!_pos _ j hj, getElem!_pos _ i (by omega)]
      simpa using this
theorem wantT_eq {l : List (Nat → Int)} {K : List Pl} {L : List (Nat → Int)} (h : l.all lineB = true) (hK : KeysOk l K) (hp : L.Perm (K.map (totF l))) (hs : SortedT L) : L = wantT l 4096 := by
  have hk := keysT_ok h
  have hperm : K.Perm (keysT l 4096) := (List.perm_ext_iff_of_nodup hK.nd hk.nd).2 fun p => (hK.mem p).trans (hk.mem p).symm
  have e : wantT l 4096 = ((List.range 4096).filter (hasT l)).map fun t => totF l (tri t) := by
    unfold wantT keysT
    rw [List.map_map]
    rfl
  rw [e]
  refine sorted_eq (List.Pairwise.filter _ List.pairwise_lt_range) ?_ hs
  rw [← e]
  exact hp.trans (hperm.map _)
end Go.Proofs.Ytdkdhhfejbecdaa
