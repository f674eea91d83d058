/- Graphs in plain words: what is below a node; the program's words on right graphs are the document's. No program in sight. -/
import Derived.Test.YtddngibfhklnfaaGrR
import Derived.Test.YtddngibfhklnfaaRfB
namespace Go.Proofs.Ytddngibfhklnfaa
theorem orderN_right {L : List Nd} (h : RightG L) : orderN L = sortN L := by unfold orderN; rw [if_pos (checkN_zero.2 h)]
theorem belN_take (L : List Nd) (id : Int) (l : List Int) (k : Nat) (x : Int) (hx : l[k]? = some x) : belN L id (l.take (k + 1)) [] = if (getN L x).fr.any (belB id (belN L id (l.take k) [])) then belN L id (l.take k) [] ++ [x] else belN L id (l.take k) [] := by
  rw [List.take_add_one, hx]
  exact belN_snoc L id x (l.take k) []
theorem getN_fr {L : List Nd} (hu : (idsN L).Nodup) {n : Nd} (hn : n ∈ L) : getN L n.id = n := getN_some (findN_one hu hn)
theorem edge_of {L : List Nd} (hu : (idsN L).Nodup) {n : Nd} (hn : n ∈ L) {f : Int} (hf : f ∈ n.fr) : Edge L n.id f := ⟨n, findN_one hu hn, hf⟩
theorem belN_spec {L : List Nd} (h : RightG L) (id : Int) : ∀ k, k ≤ (sortN L).length → ∀ x, x ∈ belN L id ((sortN L).take k) [] ↔ x ∈ (sortN L).take k ∧ ∃ s, aboveN L id s x = true
  | 0, _, x => by simp [belN]
  | k + 1, hk, x => by
    have ih := belN_spec h id k (by omega)
    obtain ⟨y, hy⟩ : ∃ y, (sortN L)[k]? = some y := ⟨_, List.getElem?_eq_getElem (by omega)⟩
    obtain ⟨n, hn, he, hf⟩ := (sortN_ord L).each k y hy
    have hkey : (getN L y).fr.any (belB id (belN L id ((sortN L).take k) [])) = true ↔ ∃ s, aboveN L id s y = true := by
      rw [← he, getN_fr h.uni hn, List.any_eq_true]
      constructor
      · rintro ⟨f, hff, hb⟩
        unfold belB at hb
        rw [Bool.or_eq_true] at hb
        rcases hb with hb | hb
        · have : f = id := by simpa using hb
          subst this
          exact ⟨1, aboveN_edge 0 (edge_of h.uni hn hff)⟩
        · obtain ⟨_, s, hs⟩ := (ih f).1 (hasI_iff.1 hb)
          exact ⟨s + 1, aboveN_step (edge_of h.uni hn hff) hs⟩
      · rintro ⟨s, hs⟩
        cases s with
        | zero => cases hs
        | succ s =>
          obtain ⟨f, ⟨m, hm, hfm⟩, hh⟩ := aboveN_cases hs
          have hmn : m = n := by
            have := findN_one h.uni hn
            rw [this] at hm
            injection hm with hm
            exact hm.symm
          subst hmn
          refine ⟨f, hfm, ?_⟩
          unfold belB
          rw [Bool.or_eq_true]
          rcases hh with rfl | hh
          · left; simp
          · right
            exact hasI_iff.2 ((ih f).2 ⟨hf f hfm, s, hh⟩)
    rw [belN_take L id (sortN L) k y hy]
    have htk : (sortN L).take (k + 1) = (sortN L).take k ++ [y] := by rw [List.take_add_one, hy]; rfl
    rw [htk]
    by_cases hb : (getN L y).fr.any (belB id (belN L id ((sortN L).take k) [])) = true
    · rw [if_pos hb]
      obtain ⟨s, hs⟩ := hkey.1 hb
      constructor
      · intro hx
        rcases List.mem_append.1 hx with hx | hx
        · obtain ⟨h1, h2⟩ := (ih x).1 hx
          exact ⟨List.mem_append.2 (.inl h1), h2⟩
        · have := List.mem_singleton.1 hx
          subst this
          exact ⟨by simp, s, hs⟩
      · rintro ⟨hx, h2⟩
        rcases List.mem_append.1 hx with hx | hx
        · exact List.mem_append.2 (.inl ((ih x).2 ⟨hx, h2⟩))
        · exact List.mem_append.2 (.inr hx)
    · rw [if_neg hb]
      constructor
      · intro hx
        obtain ⟨h1, h2⟩ := (ih x).1 hx
        exact ⟨List.mem_append.2 (.inl h1), h2⟩
      · rintro ⟨hx, h2⟩
        rcases List.mem_append.1 hx with hx | hx
        · exact (ih x).2 ⟨hx, h2⟩
        · have := List.mem_singleton.1 hx
          subst this
          exact absurd (hkey.2 h2) hb
theorem belN_nodup (L : List Nd) (id : Int) (l : List Int) (hl : l.Nodup) : ∀ k, (belN L id (l.take k) []).Nodup ∧ ∀ x ∈ belN L id (l.take k) [], x ∈ l.take k
  | 0 => by simp [belN]
  | k + 1 => by
    obtain ⟨h1, h2⟩ := belN_nodup L id l hl k
    cases hy : l[k]? with
    | none =>
      have hlen : l.length ≤ k := by
        rcases Nat.lt_or_ge k l.length with h | h
        · rw [List.getElem?_eq_getElem h] at hy; cases hy
        · exact h
      rw [List.take_of_length_le (by omega)]
      rw [List.take_of_length_le hlen] at h1 h2
      exact ⟨h1, h2⟩
    | some y =>
      have htk : l.take (k + 1) = l.take k ++ [y] := by rw [List.take_add_one, hy]; rfl
      rw [belN_take L id l k y hy, htk]
      split
      · have hn : y ∉ l.take k := by
          have h3 : (l.take (k + 1)).Nodup := hl.sublist (List.take_sublist _ _)
          rw [htk, List.nodup_append] at h3
          exact fun hm => h3.2.2 y hm y (by simp) rfl
        refine ⟨?_, fun x hx => ?_⟩
        · rw [List.nodup_append]
          refine ⟨h1, by simp, fun a ha b hb => ?_⟩
          have := List.mem_singleton.1 hb
          subst this
          rintro rfl
          exact hn (h2 _ ha)
        · rcases List.mem_append.1 hx with hx | hx
          · exact List.mem_append.2 (.inl (h2 x hx))
          · exact List.mem_append.2 (.inr hx)
      · exact ⟨h1, fun x hx => List.mem_append.2 (.inl (h2 x hx))⟩
theorem belowN_mem {L : List Nd} (h : RightG L) {id x : Int} : x ∈ belowN L id ↔ x ∈ idsN L ∧ ∃ s, aboveN L id s x = true := by
  unfold belowN
  rw [(srt_perm _).mem_iff, orderN_right h]
  have := belN_spec h id (sortN L).length (Nat.le_refl _) x
  rw [List.take_length] at this
  rw [this]
  constructor
  · rintro ⟨h1, h2⟩
    exact ⟨(sortN_ord L).sub x h1, h2⟩
  · rintro ⟨h1, h2⟩
    obtain ⟨n, hn, e⟩ := List.mem_map.1 h1
    exact ⟨by rw [← e]; exact complete_all h.complete hn, h2⟩
theorem belowN_rises {L : List Nd} (h : RightG L) (id : Int) : (belowN L id).Pairwise (· < ·) := by
  unfold belowN
  rw [orderN_right h]
  have h1 := srt_sorted (belN L id (sortN L) [])
  have h2 := (belN_nodup L id (sortN L) (sortN_ord L).nodup (sortN L).length).1
  rw [List.take_length] at h2
  have h3 := List.nodup_iff_pairwise_ne.1 ((srt_perm _).nodup_iff.2 h2)
  exact (List.Pairwise.and h1 h3).imp fun h => by omega
theorem above_short {L : List Nd} {r : Int → Nat} (hr : ∀ n ∈ L, ∀ f ∈ n.fr, r f < r n.id) {t : Int} : ∀ {s : Nat} {f : Int}, aboveN L t s f = true → aboveN L t (r f) f = true
  | 0, _, h => by cases h
  | s + 1, f, h => by
    obtain ⟨k, ⟨n, hn, hk⟩, hh⟩ := aboveN_cases h
    have h1 := hr n (findN_mem hn) k hk
    rw [findN_id hn] at h1
    rcases hh with rfl | hh
    · exact aboveN_le (aboveN_edge 0 ⟨n, hn, hk⟩) (by omega)
    · exact aboveN_le (aboveN_step ⟨n, hn, hk⟩ (above_short hr hh)) (by omega)
theorem posI_lt {l : List Int} {x : Int} (h : x ∈ l) : posI l x < l.length := (List.getElem?_eq_some_iff.1 (posI_get h)).1
theorem above_nine {L : List Nd} (h : RightG L) {id x : Int} : (∃ s, aboveN L id s x = true) ↔ aboveN L id 9 x = true := by
  constructor
  · rintro ⟨s, hs⟩
    have h1 := above_short (complete_rank h.uni h.complete) hs
    cases s with
    | zero => cases hs
    | succ s =>
      obtain ⟨k, ⟨n, hn, hk⟩, _⟩ := aboveN_cases hs
      have hm := complete_all h.complete (findN_mem hn)
      rw [findN_id hn] at hm
      have h2 := posI_lt hm
      have h3 := h.complete
      have h4 := h.len
      unfold Complete at h3
      exact aboveN_le h1 (by omega)
  · exact fun h => ⟨9, h⟩
theorem rngI_mem {k : Nat} {x : Int} : x ∈ rngI k ↔ 0 ≤ x ∧ x < k := by
  unfold rngI
  rw [List.mem_map]
  constructor
  · rintro ⟨i, hi, rfl⟩
    have := List.mem_range.1 hi
    omega
  · rintro ⟨h1, h2⟩
    exact ⟨x.toNat, List.mem_range.2 (by omega), by omega⟩
theorem rngI_rises (k : Nat) : (rngI k).Pairwise (· < ·) := by
  unfold rngI
  rw [List.pairwise_map]
  exact List.pairwise_lt_range.imp fun h => by omega
theorem ids_in {L : List Nd} (h : RightG L) {x : Int} (hx : x ∈ idsN L) : 0 ≤ x ∧ x < 8 := by
  obtain ⟨n, hn, e⟩ := List.mem_map.1 hx
  have := nodeB_iff.1 (h.each n hn)
  rw [← e]
  exact ⟨this.1, this.2.1⟩
theorem below_right {L : List Nd} (h : RightG L) (id : Int) : belowN L id = belowR L id := by
  refine rises_eq (belowN_rises h id) ((rngI_rises 8).filter _) fun x => ?_
  unfold belowR
  rw [belowN_mem h, List.mem_filter, above_nine h, rngI_mem]
  constructor
  · rintro ⟨h1, h2⟩
    have := ids_in h h1
    exact ⟨⟨by omega, by omega⟩, h2⟩
  · rintro ⟨h1, h2⟩
    refine ⟨?_, h2⟩
    obtain ⟨k, ⟨n, hn, _⟩, _⟩ := aboveN_cases (s := 8) h2
    exact findN_ids.1 ⟨n, hn⟩
theorem child_right {L : List Nd} (h : RightG L) (id : Int) : childN L id = childR L id := by
  refine rises_eq (childN_rises L id) ((rngI_rises 8).filter _) fun x => ?_
  unfold childR
  rw [childN_mem, List.mem_filter, rngI_mem]
  constructor
  · rintro ⟨n, hn, rfl, hf⟩
    have := ids_in h (List.mem_map.2 ⟨n, hn, rfl⟩)
    exact ⟨⟨by omega, by omega⟩, by rw [getN_fr h.uni hn]; exact hasI_iff.2 hf⟩
  · rintro ⟨_, h2⟩
    have h3 := hasI_iff.1 h2
    cases hf : findN L x with
    | none => rw [getN_none hf] at h3; simp [zNd] at h3
    | some n =>
      rw [getN_some hf] at h3
      exact ⟨n, findN_mem hf, findN_id hf, h3⟩
/-- What GraphOrders says of a right graph. -/
theorem order_says {L : List Nd} (h : RightG L) {k : Nat} {id : Int} (hk : (sortN L)[k]? = some id) : ∃ n, findN L id = some n ∧ id ∉ (sortN L).take k ∧ ∀ f ∈ n.fr, f ∈ (sortN L).take k ∧ id ∈ childN L f ∧ id ∈ belowN L f := by
  obtain ⟨n, hn, he, hf⟩ := (sortN_ord L).each k id hk
  subst he
  refine ⟨n, findN_one h.uni hn, fun hm => ?_, fun f hff => ⟨hf f hff, childN_mem.2 ⟨n, hn, rfl, hff⟩, (belowN_mem h).2 ⟨List.mem_map.2 ⟨n, hn, rfl⟩, 1, aboveN_edge 0 (edge_of h.uni hn hff)⟩⟩⟩
  have hl := (sortN_ord L).nodup
  obtain ⟨j, hj⟩ := List.getElem?_of_mem hm
  rw [List.getElem?_take] at hj
  split at hj
  · rename_i hlt
    have h1 := List.getElem?_eq_some_iff.1 hj
    have h2 := List.getElem?_eq_some_iff.1 hk
    obtain ⟨h1a, h1b⟩ := h1
    obtain ⟨h2a, h2b⟩ := h2
    have := (List.pairwise_iff_getElem.1 (List.nodup_iff_pairwise_ne.1 hl)) j k h1a h2a hlt
    exact this (by rw [h1b, h2b])
  · cases hj
theorem above_zero {L : List Nd} (h : RightG L) (n : Nd) (hn : n ∈ L) (hz : n.id ≠ 0) : ∃ s, aboveN L 0 s n.id = true := by
  have hb := nodeB_iff.1 (h.each n hn)
  have hne : ∃ f, f ∈ n.fr := by
    have hkk := hb.2.2.1
    unfold kindB at hkk
    cases hfr : n.fr with
    | cons f l => exact ⟨f, by simp⟩
    | nil =>
      rw [hfr] at hkk
      by_cases k0 : n.kind = 0
      · rw [if_pos k0] at hkk
        simp at hkk
        exact absurd hkk.1 hz
      · rw [if_neg k0] at hkk
        split at hkk
        · simp at hkk
        · split at hkk
          · simp at hkk
          · cases hkk
  obtain ⟨f, hf⟩ := hne
  by_cases f0 : f = 0
  · subst f0
    exact ⟨1, aboveN_edge 0 (edge_of h.uni hn hf)⟩
  · obtain ⟨m, hm, _⟩ := hb.2.2.2.2 f hf
    have hlt := complete_rank h.uni h.complete n hn f hf
    have hid := findN_id hm
    obtain ⟨s, hs⟩ := above_zero h m (findN_mem hm) (by rw [hid]; exact f0)
    rw [hid] at hs
    exact ⟨s + 1, aboveN_step (edge_of h.uni hn hf) hs⟩
termination_by posI (sortN L) n.id
decreasing_by rw [hid]; exact hlt
theorem below_zero {L : List Nd} (h : RightG L) : (belowN L 0).length + 1 = L.length := by
  have hmem : ∀ x, x ∈ belowN L 0 ↔ x ∈ idsN L ∧ x ≠ 0 := by
    intro x
    rw [belowN_mem h]
    constructor
    · rintro ⟨h1, s, hs⟩
      refine ⟨h1, ?_⟩
      rintro rfl
      obtain ⟨r, hr⟩ := h.rank
      have := ranked_above hr hs
      omega
    · rintro ⟨h1, h2⟩
      obtain ⟨n, hn, rfl⟩ := List.mem_map.1 h1
      exact ⟨h1, above_zero h n hn h2⟩
  have hnd := rises_nodup (belowN_rises h 0)
  have hz : 0 ∉ belowN L 0 := fun hm => ((hmem 0).1 hm).2 rfl
  have h1 := nodup_sub (a := 0 :: belowN L 0) (b := idsN L) (List.nodup_cons.2 ⟨hz, hnd⟩) (fun x hx => by
    rcases List.mem_cons.1 hx with rfl | hx
    · exact h.zero
    · exact ((hmem x).1 hx).1)
  have h2 := nodup_sub (a := idsN L) (b := 0 :: belowN L 0) h.uni (fun x hx => by
    by_cases e : x = 0
    · simp [e]
    · exact List.mem_cons_of_mem _ ((hmem x).2 ⟨hx, e⟩))
  simp [idsN] at h1 h2
  omega
end Go.Proofs.Ytddngibfhklnfaa
