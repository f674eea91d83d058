/- Graphs in plain words: the nodes by their numbers, the order, what makes a graph right. No program in sight. -/
import Derived.Test.YtddngibfhklnfaaNdF
import Derived.Test.YtddngibfhklnfaaNdG
namespace Go.Proofs.Ytddngibfhklnfaa
def idsN (L : List Nd) : List Int := L.map (·.id)
def leN (a b : Nd) : Bool := decide (a.id ≤ b.id)
/-- The nodes by their numbers. -/
def normL (L : List Nd) : List Nd := L.mergeSort leN
def filtN (k : Int) (L : List Nd) : List Nd := L.filter fun n => decide (n.id = k)
abbrev SortedN (L : List Nd) : Prop := L.Pairwise fun a b => a.id ≤ b.id
theorem leN_trans (a b c : Nd) : leN a b = true → leN b c = true → leN a c = true := by simp [leN]; omega
theorem leN_total (a b : Nd) : (leN a b || leN b a) = true := by simp [leN]; omega
theorem normL_perm (L : List Nd) : (normL L).Perm L := List.mergeSort_perm _ _
theorem normL_len (L : List Nd) : (normL L).length = L.length := (normL_perm L).length_eq
theorem normL_sorted (L : List Nd) : SortedN (normL L) :=
  (List.pairwise_mergeSort leN_trans leN_total L).imp fun h => by simpa [leN] using h
theorem normL_mem {L : List Nd} {x : Nd} : x ∈ normL L ↔ x ∈ L := (normL_perm L).mem_iff
theorem normL_filt (k : Int) (L : List Nd) : filtN k (normL L) = filtN k L := by
  have h1 : (filtN k L).Sublist (normL L) := by
    refine List.sublist_mergeSort leN_trans leN_total ?_ List.filter_sublist
    refine List.Pairwise.imp_of_mem ?_ (List.pairwise_of_forall (R := fun _ _ => True) fun _ _ => trivial)
    intro a b ha hb _
    have ha := (List.mem_filter.1 ha).2
    have hb := (List.mem_filter.1 hb).2
    simp at ha hb
    simp [leN, ha, hb]
  have h2 : (filtN k L).Sublist (filtN k (normL L)) := by
    have := h1.filter fun n => decide (n.id = k)
    have e : (filtN k L).filter (fun n => decide (n.id = k)) = filtN k L := by unfold filtN; rw [List.filter_filter]; simp
    rw [e] at this
    exact this
  refine (h2.eq_of_length ?_).symm
  exact ((normL_perm L).filter _).length_eq.symm
theorem filtN_head {k : Int} {n : Nd} {L : List Nd} : filtN k (n :: L) = if n.id = k then n :: filtN k L else filtN k L := by
  unfold filtN
  rw [List.filter_cons]
  by_cases h : n.id = k <;> simp [h]
theorem sorted_uniq : ∀ {A B : List Nd}, SortedN A → SortedN B → (∀ k, filtN k A = filtN k B) → A = B
  | [], [], _, _, _ => rfl
  | [], b :: B, _, _, h => by
    have := h b.id
    rw [filtN_head, if_pos rfl] at this
    cases this
  | a :: A, [], _, _, h => by
    have := h a.id
    rw [filtN_head, if_pos rfl] at this
    cases this
  | a :: A, b :: B, hA, hB, h => by
    have hA' := List.pairwise_cons.1 hA
    have hB' := List.pairwise_cons.1 hB
    have hid : a.id = b.id := by
      have h1 : a.id ≤ b.id := by
        have hb : b ∈ filtN b.id (a :: A) := by rw [h b.id]; simp [filtN]
        have hb := (List.mem_filter.1 hb).1
        rcases List.mem_cons.1 hb with e | e
        · rw [e]; omega
        · exact hA'.1 b e
      have h2 : b.id ≤ a.id := by
        have hb : a ∈ filtN a.id (b :: B) := by rw [← h a.id]; simp [filtN]
        have hb := (List.mem_filter.1 hb).1
        rcases List.mem_cons.1 hb with e | e
        · rw [e]; omega
        · exact hB'.1 a e
      omega
    have hab : a = b := by
      have := h a.id
      rw [filtN_head, if_pos rfl, filtN_head, if_pos hid.symm] at this
      injection this
    subst hab
    congr 1
    refine sorted_uniq hA'.2 hB'.2 fun k => ?_
    have := h k
    rw [filtN_head, filtN_head] at this
    split at this
    · injection this
    · exact this
theorem normL_eq {R L : List Nd} (hs : SortedN R) (hf : ∀ k, filtN k R = filtN k L) : R = normL L := sorted_uniq hs (normL_sorted L) fun k => by rw [hf, normL_filt]
theorem normL_self {L : List Nd} (hs : SortedN L) : normL L = L := (normL_eq hs fun _ => rfl).symm
theorem normL_norm (L : List Nd) : normL (normL L) = normL L := normL_self (normL_sorted L)
theorem findN_filt (L : List Nd) (k : Int) : findN L k = (filtN k L).head? := by
  unfold findN filtN
  rw [List.head?_filter]
theorem findN_norm (L : List Nd) (k : Int) : findN (normL L) k = findN L k := by rw [findN_filt, findN_filt, normL_filt]
theorem findN_id {L : List Nd} {k : Int} {n : Nd} (h : findN L k = some n) : n.id = k := by simpa using List.find?_some h
theorem findN_mem {L : List Nd} {k : Int} {n : Nd} (h : findN L k = some n) : n ∈ L := List.mem_of_find?_eq_some h
theorem findN_ids {L : List Nd} {k : Int} : (∃ n, findN L k = some n) ↔ k ∈ idsN L := by
  constructor
  · rintro ⟨n, h⟩
    exact List.mem_map.2 ⟨n, findN_mem h, findN_id h⟩
  · intro h
    obtain ⟨n, hn, e⟩ := List.mem_map.1 h
    cases hf : findN L k with
    | some n => exact ⟨n, rfl⟩
    | none =>
      have := List.find?_eq_none.1 hf n hn
      simp [e] at this
theorem findN_one {L : List Nd} (hu : (idsN L).Nodup) {n : Nd} (hn : n ∈ L) : findN L n.id = some n := by
  induction L with
  | nil => cases hn
  | cons y L ih =>
    have hu' := List.nodup_cons.1 hu
    unfold findN
    rw [List.find?_cons]
    by_cases e : y.id = n.id
    · simp only [e, decide_true]
      rcases List.mem_cons.1 hn with h | h
      · rw [h]
      · exact absurd (List.mem_map.2 ⟨n, h, e.symm⟩) hu'.1
    · simp only [e, decide_false]
      rcases List.mem_cons.1 hn with h | h
      · subst h; exact absurd rfl e
      · exact ih hu'.2 h
/-- May a node stand next? -/
def readyB (out : List Int) (n : Nd) : Bool := !hasI out n.id && n.fr.all (hasI out)
/-- The order, so many steps of it. -/
def sortF (L : List Nd) : Nat → List Int
  | 0 => []
  | k + 1 => match L.find? (readyB (sortF L k)) with
    | none => sortF L k
    | some n => sortF L k ++ [n.id]
def sortN (L : List Nd) : List Int := sortF (normL L) L.length
theorem readyB_iff {out : List Int} {n : Nd} : readyB out n = true ↔ n.id ∉ out ∧ ∀ f ∈ n.fr, f ∈ out := by
  unfold readyB
  rw [Bool.and_eq_true, Bool.not_eq_true', List.all_eq_true]
  constructor
  · rintro ⟨h1, h2⟩
    exact ⟨(fun h => by rw [hasI_iff.2 h] at h1; cases h1), fun f hf => hasI_iff.1 (h2 f hf)⟩
  · rintro ⟨h1, h2⟩
    refine ⟨?_, fun f hf => hasI_iff.2 (h2 f hf)⟩
    cases hb : hasI out n.id with
    | false => rfl
    | true => exact absurd (hasI_iff.1 hb) h1
/-- What is so of the order, as far as it goes. -/
structure OrdN (L : List Nd) (out : List Int) : Prop where
  nodup : out.Nodup
  each : ∀ i x, out[i]? = some x → ∃ n ∈ L, n.id = x ∧ ∀ f ∈ n.fr, f ∈ out.take i
theorem OrdN.sub {L : List Nd} {out : List Int} (h : OrdN L out) : ∀ x ∈ out, x ∈ idsN L := by
  intro x hx
  obtain ⟨i, hi⟩ := List.getElem?_of_mem hx
  obtain ⟨n, hn, e, _⟩ := h.each i x hi
  exact List.mem_map.2 ⟨n, hn, e⟩
theorem OrdN.le {L : List Nd} {out : List Int} (h : OrdN L out) : out.length ≤ L.length := by
  have := nodup_sub h.nodup h.sub
  simpa [idsN] using this
theorem OrdN.snoc {L : List Nd} {out : List Int} (h : OrdN L out) {n : Nd} (hn : n ∈ L) (hr : readyB out n = true) : OrdN L (out ++ [n.id]) := by
  obtain ⟨h1, h2⟩ := readyB_iff.1 hr
  refine ⟨?_, fun i x hi => ?_⟩
  · rw [List.nodup_append]
    refine ⟨h.nodup, by simp, ?_⟩
    intro a ha b hb
    simp at hb
    subst hb
    rintro rfl
    exact h1 ha
  · rcases Nat.lt_or_ge i out.length with hlt | hge
    · rw [List.getElem?_append_left hlt] at hi
      obtain ⟨m, hm, e, hf⟩ := h.each i x hi
      refine ⟨m, hm, e, fun f hff => ?_⟩
      rw [List.take_append_of_le_length (by omega)]
      exact hf f hff
    · rw [List.getElem?_append_right hge] at hi
      have hi0 : i = out.length := by
        rcases Nat.eq_zero_or_pos (i - out.length) with h0 | h0
        · omega
        · rw [List.getElem?_eq_none (by simp; omega)] at hi; cases hi
      subst hi0
      simp at hi
      subst hi
      refine ⟨n, hn, rfl, fun f hf => ?_⟩
      rw [List.take_append_of_le_length (by omega), List.take_length]
      exact h2 f hf
theorem sortF_ord (L : List Nd) : ∀ k, OrdN L (sortF L k)
  | 0 => ⟨List.nodup_nil, fun i x h => by simp [sortF] at h⟩
  | k + 1 => by
    unfold sortF
    split
    · exact sortF_ord L k
    · rename_i n hn
      exact (sortF_ord L k).snoc (List.mem_of_find?_eq_some hn) (by simpa using List.find?_some hn)
theorem sortF_stay {L : List Nd} {k : Nat} (h : L.find? (readyB (sortF L k)) = none) : ∀ j, sortF L (k + j) = sortF L k
  | 0 => rfl
  | j + 1 => by
    have ih := sortF_stay h j
    show (match L.find? (readyB (sortF L (k + j))) with | none => sortF L (k + j) | some n => sortF L (k + j) ++ [n.id]) = _
    rw [ih, h]
theorem sortF_some {L : List Nd} {k : Nat} {n : Nd} (h : L.find? (readyB (sortF L k)) = some n) : sortF L (k + 1) = sortF L k ++ [n.id] := by
  show (match L.find? (readyB (sortF L k)) with | none => sortF L k | some n => sortF L k ++ [n.id]) = _
  rw [h]
theorem sortF_room {L : List Nd} {k : Nat} {n : Nd} (hk : (sortF L k).length = k) (h : L.find? (readyB (sortF L k)) = some n) : k < L.length := by
  have := (sortF_ord L (k + 1)).le
  rw [sortF_some h, List.length_append, hk] at this
  simp at this
  omega
theorem sortF_end {L : List Nd} {k : Nat} (hk : k ≤ L.length) (h : L.find? (readyB (sortF L k)) = none) : sortF L L.length = sortF L k := by
  obtain ⟨j, hj⟩ : ∃ j, L.length = k + j := ⟨L.length - k, by omega⟩
  rw [hj]
  exact sortF_stay h j
end Go.Proofs.Ytddngibfhklnfaa
