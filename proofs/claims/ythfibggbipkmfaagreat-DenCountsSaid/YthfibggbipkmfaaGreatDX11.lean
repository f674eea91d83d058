/- Texts merged into one, for the number of files a claim may have: GrR. -/
import Derived.Test.YthfibggbipkmfaaGreatDX9
namespace Go.Proofs.YthfibggbipkmfaaGreat
theorem kids_mem : ∀ (L : List Nd) (id : Int) (out : List Int) (c : Int), c ∈ kidsN L id out ↔ c ∈ out ∨ ∃ n ∈ L, n.id = c ∧ id ∈ n.fr
  | [], id, out, c => by simp [kidsN]
  | x :: L, id, out, c => by
    unfold kidsN
    rw [kids_mem L id _ c]
    by_cases h : hasI x.fr id = true
    · have hx : id ∈ x.fr := hasI_iff.1 h
      by_cases h2 : hasI out x.id = true
      · have h2' : x.id ∈ out := hasI_iff.1 h2
        rw [if_neg (by simp [h, h2])]
        constructor
        · rintro (h | ⟨n, hn, e⟩)
          · exact .inl h
          · exact .inr ⟨n, by simp [hn], e⟩
        · rintro (h | ⟨n, hn, e, hf⟩)
          · exact .inl h
          · rcases List.mem_cons.1 hn with rfl | hn
            · left; rw [← e]; exact h2'
            · exact .inr ⟨n, hn, e, hf⟩
      · rw [if_pos (by simp [h, h2])]
        constructor
        · rintro (h | ⟨n, hn, e⟩)
          · rcases List.mem_append.1 h with h | h
            · exact .inl h
            · exact .inr ⟨x, by simp, (List.mem_singleton.1 h).symm, hx⟩
          · exact .inr ⟨n, by simp [hn], e⟩
        · rintro (h | ⟨n, hn, e, hf⟩)
          · exact .inl (by simp [h])
          · rcases List.mem_cons.1 hn with rfl | hn
            · exact .inl (by simp [e])
            · exact .inr ⟨n, hn, e, hf⟩
    · rw [if_neg (by simp [h])]
      have hx : id ∉ x.fr := fun hx => h (hasI_iff.2 hx)
      constructor
      · rintro (h | ⟨n, hn, e⟩)
        · exact .inl h
        · exact .inr ⟨n, by simp [hn], e⟩
      · rintro (h | ⟨n, hn, e, hf⟩)
        · exact .inl h
        · rcases List.mem_cons.1 hn with rfl | hn
          · exact absurd hf hx
          · exact .inr ⟨n, hn, e, hf⟩
theorem childN_mem {L : List Nd} {id c : Int} : c ∈ childN L id ↔ ∃ n ∈ L, n.id = c ∧ id ∈ n.fr := by
  unfold childN
  rw [(srt_perm _).mem_iff, kids_mem]
  simp
theorem kids_nodup : ∀ (L : List Nd) (id : Int) (out : List Int), out.Nodup → (kidsN L id out).Nodup
  | [], _, _, h => h
  | x :: L, id, out, h => by
    unfold kidsN
    refine kids_nodup L id _ ?_
    split
    · rename_i hc
      simp only [Bool.and_eq_true, Bool.not_eq_true'] at hc
      have hn : x.id ∉ out := fun hm => by have := hasI_iff.2 hm; rw [hc.2] at this; cases this
      rw [List.nodup_append]
      refine ⟨h, by simp, fun a ha b hb => ?_⟩
      simp at hb
      subst hb
      rintro rfl
      exact hn ha
    · exact h
theorem childN_rises (L : List Nd) (id : Int) : (childN L id).Pairwise (· < ·) := by
  have h1 := srt_sorted (kidsN L id [])
  have h2 : (childN L id).Nodup := (srt_perm _).nodup_iff.2 (kids_nodup L id [] List.nodup_nil)
  have h3 := List.nodup_iff_pairwise_ne.1 h2
  unfold childN at h3 ⊢
  exact (List.Pairwise.and h1 h3).imp fun h => by omega
theorem childN_nil {L : List Nd} {id : Int} : (childN L id).length = 0 ↔ ∀ n ∈ L, id ∉ n.fr := by
  constructor
  · intro h n hn hf
    have := childN_mem.2 ⟨n, hn, rfl, hf⟩
    rw [List.eq_nil_of_length_eq_zero h] at this
    cases this
  · intro h
    cases hc : childN L id with
    | nil => rfl
    | cons c l =>
      obtain ⟨n, hn, _, hf⟩ := childN_mem.1 (show c ∈ childN L id by rw [hc]; simp)
      exact absurd hf (h n hn)
theorem nodeB_iff {L : List Nd} {x : Nd} : nodeB L x = true ↔ 0 ≤ x.id ∧ x.id < 8 ∧ kindB x = true ∧ right8 x.par x.rt = true ∧ ∀ f ∈ x.fr, ∃ m, findN L f = some m ∧ m.kind ≠ 2 := by
  constructor
  · intro h
    have h2 := froms_there h
    unfold nodeB at h
    simp only [Bool.and_eq_true, decide_eq_true_eq] at h
    exact ⟨h.1, h.2.1, h.2.2.1, h.2.2.2.1, h2⟩
  · rintro ⟨h1, h2, h3, h4, h5⟩
    unfold nodeB
    simp only [Bool.and_eq_true, decide_eq_true_eq, Bool.not_eq_true', List.any_eq_false]
    refine ⟨h1, h2, h3, h4, fun f hf => ?_⟩
    obtain ⟨m, hm, hk⟩ := h5 f hf
    unfold aboveB
    rw [hm]
    simpa using hk
theorem kindB_zero {x : Nd} (h : kindB x = true) : x.id = 0 ↔ x.kind = 0 := by
  unfold kindB at h
  by_cases k0 : x.kind = 0
  · rw [if_pos k0] at h
    simp only [Bool.and_eq_true, decide_eq_true_eq] at h
    exact ⟨fun _ => k0, fun _ => h.1⟩
  · rw [if_neg k0] at h
    constructor
    · intro hi
      rw [hi] at h
      split at h
      · simp at h
      · split at h
        · simp at h
        · cases h
    · intro hk; exact absurd hk k0
theorem findN_app {L : List Nd} {s : Nd} {k : Int} : findN (L ++ [s]) k = match findN L k with
    | some n => some n
    | none => if s.id = k then some s else none := by
  unfold findN
  rw [List.find?_append]
  cases h : L.find? fun x => decide (x.id = k) with
  | some n => rfl
  | none =>
    by_cases e : s.id = k <;> simp [e]
theorem filtN_erase {L : List Nd} {i : Nat} {x : Nd} (hx : L[i]? = some x) {k : Int} (hk : k ≠ x.id) : filtN k (L.take i ++ L.drop (i + 1)) = filtN k L := by
  have hi : i < L.length := (List.getElem?_eq_some_iff.1 hx).1
  have e : L = L.take i ++ x :: L.drop (i + 1) := by
    conv => lhs; rw [← List.take_append_drop i L]
    rw [List.drop_eq_getElem_cons hi, (List.getElem?_eq_some_iff.1 hx).2]
  conv => rhs; rw [e]
  unfold filtN
  rw [List.filter_append, List.filter_append, List.filter_cons]
  have hkx : ¬ x.id = k := fun h => hk h.symm
  simp [hkx]
theorem mem_erase {L : List Nd} {i : Nat} {x : Nd} (hx : L[i]? = some x) {y : Nd} (hy : y ∈ L) (hne : y ≠ x) : y ∈ L.take i ++ L.drop (i + 1) := by
  have hi : i < L.length := (List.getElem?_eq_some_iff.1 hx).1
  have e : L = L.take i ++ x :: L.drop (i + 1) := by
    conv => lhs; rw [← List.take_append_drop i L]
    rw [List.drop_eq_getElem_cons hi, (List.getElem?_eq_some_iff.1 hx).2]
  rw [e] at hy
  rcases List.mem_append.1 hy with h | h
  · exact List.mem_append.2 (.inl h)
  · rcases List.mem_cons.1 h with h | h
    · exact absurd h hne
    · exact List.mem_append.2 (.inr h)
theorem sub_erase (L : List Nd) (i : Nat) : (L.take i ++ L.drop (i + 1)).Sublist L := by
  conv => rhs; rw [← List.take_append_drop i L]
  exact (List.Sublist.refl _).append (by rw [show L.drop (i + 1) = (L.drop i).drop 1 by rw [List.drop_drop]]; exact List.drop_sublist _ _)
theorem gone_id {L : List Nd} (hu : (idsN L).Nodup) {i : Nat} {x : Nd} (hx : L[i]? = some x) : x.id ∉ idsN (L.take i ++ L.drop (i + 1)) := by
  intro hm
  have hi : i < L.length := (List.getElem?_eq_some_iff.1 hx).1
  have e : L = L.take i ++ x :: L.drop (i + 1) := by
    conv => lhs; rw [← List.take_append_drop i L]
    rw [List.drop_eq_getElem_cons hi, (List.getElem?_eq_some_iff.1 hx).2]
  rw [e] at hu
  simp only [idsN, List.map_append, List.map_cons] at hu hm
  rw [List.nodup_append] at hu
  rcases List.mem_append.1 hm with h | h
  · exact hu.2.2 _ h _ (by simp) rfl
  · exact (List.nodup_cons.1 hu.2.1).1 h
theorem less_node {L : List Nd} (h : RightG L) {i : Nat} {x : Nd} (hx : L[i]? = some x) :
    RightG (L.take i ++ L.drop (i + 1)) ↔ x.kind ≠ 0 ∧ (childN L x.id).length = 0 := by
  have hxm := List.mem_of_getElem? hx
  have hsub := sub_erase L i
  constructor
  · intro g
    constructor
    · intro hk
      have hz := (kindB_zero (nodeB_iff.1 (h.each x hxm)).2.2.1).2 hk
      have := gone_id h.uni hx
      rw [hz] at this
      exact this g.zero
    · rw [childN_nil]
      intro n hn hf
      obtain ⟨r, hr⟩ := h.rank
      have hne : n ≠ x := by
        rintro rfl
        have := hr n hn _ hf
        omega
      obtain ⟨m, hm, _⟩ := (nodeB_iff.1 (g.each n (mem_erase hx hn hne))).2.2.2.2 x.id hf
      exact gone_id h.uni hx (findN_ids.1 ⟨m, hm⟩)
  · rintro ⟨hk, hc⟩
    rw [childN_nil] at hc
    refine ⟨Nat.le_trans hsub.length_le h.len, ?_, ?_, ?_, ?_⟩
    · intro n hn
      have hnL := hsub.subset hn
      obtain ⟨a1, a2, a3, a4, a5⟩ := nodeB_iff.1 (h.each n hnL)
      refine nodeB_iff.2 ⟨a1, a2, a3, a4, fun f hf => ?_⟩
      obtain ⟨m, hm, hmk⟩ := a5 f hf
      refine ⟨m, ?_, hmk⟩
      rw [findN_filt, filtN_erase hx, ← findN_filt]
      · exact hm
      · rintro rfl
        exact hc n hnL hf
    · exact h.uni.sublist (hsub.map _)
    · obtain ⟨z, hz, e⟩ := List.mem_map.1 h.zero
      refine List.mem_map.2 ⟨z, mem_erase hx hz ?_, e⟩
      rintro rfl
      exact hk ((kindB_zero (nodeB_iff.1 (h.each z hz)).2.2.1).1 e)
    · obtain ⟨r, hr⟩ := h.rank
      exact ⟨r, fun n hn f hf => hr n (hsub.subset hn) f hf⟩
end Go.Proofs.YthfibggbipkmfaaGreat
