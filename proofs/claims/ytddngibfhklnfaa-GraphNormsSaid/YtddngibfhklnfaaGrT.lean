/- Graphs in plain words: when two are one. No program in sight. -/
import Derived.Test.YtddngibfhklnfaaSameE
import Derived.Test.YtddngibfhklnfaaGrS
namespace Go.Proofs.Ytddngibfhklnfaa
theorem sameNd_refl (x : Nd) : sameNd x x = true := by simp [sameNd, rt8B]
theorem eqL_refl (L : List Nd) : eqL L L = true := eqL_good rfl fun k x y hx hy => by
  rw [hx] at hy
  injection hy with hy
  rw [hy]
  exact sameNd_refl y
theorem sameL_norm (L : List Nd) : sameL L (normL L) = true := by unfold sameL; rw [normL_norm]; exact eqL_refl _
theorem sameL_self (L : List Nd) : sameL L L = true := eqL_refl _
theorem eqL_iff {L K : List Nd} : eqL L K = true ↔ L.length = K.length ∧ ∀ (k : Nat) (x y : Nd), L[k]? = some x → K[k]? = some y → sameNd x y = true := by
  constructor
  · intro h
    have hl : L.length = K.length := Classical.byContradiction fun hn => by rw [eqL_no hn] at h; cases h
    refine ⟨hl, fun k x y hx hy => ?_⟩
    cases hs : sameNd x y with
    | true => rfl
    | false => rw [eqL_bad hx hy hs] at h; cases h
  · rintro ⟨h1, h2⟩
    exact eqL_good h1 h2
theorem sameNd_id {x y : Nd} (h : sameNd x y = true) : x.id = y.id := by
  unfold sameNd at h
  simp only [Bool.and_eq_true, decide_eq_true_eq] at h
  exact h.1
theorem norm_rises {L : List Nd} (hu : (idsN L).Nodup) : (idsN (normL L)).Pairwise (· < ·) := by
  have h1 : (idsN (normL L)).Pairwise (· ≤ ·) := by unfold idsN; rw [List.pairwise_map]; exact normL_sorted L
  have h2 : (idsN (normL L)).Nodup := ((normL_perm L).map _).nodup_iff.2 hu
  exact (List.Pairwise.and h1 (List.nodup_iff_pairwise_ne.1 h2)).imp fun h => by omega
theorem norm_ids {L : List Nd} {x : Int} : x ∈ idsN (normL L) ↔ x ∈ idsN L := ((normL_perm L).map _).mem_iff
theorem rsameL_iff {L K : List Nd} : rsameL L K = true ↔ L.length = K.length ∧ ∀ x ∈ L, rsame1 K x = true := by
  unfold rsameL
  rw [Bool.and_eq_true, decide_eq_true_eq, List.all_eq_true]
theorem same_right {L K : List Nd} (hu : (idsN L).Nodup) (hk : (idsN K).Nodup) : sameL L K = rsameL L K := by
  rw [Bool.eq_iff_iff, rsameL_iff]
  unfold sameL
  rw [eqL_iff, normL_len, normL_len]
  constructor
  · rintro ⟨h1, h2⟩
    refine ⟨h1, fun x hx => ?_⟩
    obtain ⟨k, hkx⟩ := List.getElem?_of_mem (normL_mem.2 hx)
    have hlt := (List.getElem?_eq_some_iff.1 hkx).1
    rw [normL_len] at hlt
    obtain ⟨y, hy⟩ : ∃ y, (normL K)[k]? = some y := ⟨_, List.getElem?_eq_getElem (by rw [normL_len]; omega)⟩
    have hs := h2 k x y hkx hy
    unfold rsame1
    rw [sameNd_id hs, findN_one hk (normL_mem.1 (List.mem_of_getElem? hy))]
    exact hs
  · rintro ⟨h1, h2⟩
    refine ⟨h1, ?_⟩
    have hsub : ∀ x ∈ idsN L, x ∈ idsN K := by
      intro i hi
      obtain ⟨x, hx, rfl⟩ := List.mem_map.1 hi
      have := h2 x hx
      unfold rsame1 at this
      cases hf : findN K x.id with
      | none => rw [hf] at this; cases this
      | some y => exact findN_ids.1 ⟨y, hf⟩
    have hback := full_sub hu hsub (by simp [idsN]; omega)
    have hids : idsN (normL L) = idsN (normL K) := rises_eq (norm_rises hu) (norm_rises hk) fun x => by
      rw [norm_ids, norm_ids]
      exact ⟨hsub x, hback x⟩
    intro k x y hx hy
    have hid : x.id = y.id := by
      have a : (idsN (normL L))[k]? = some x.id := by simp [idsN, hx]
      have b : (idsN (normL K))[k]? = some y.id := by simp [idsN, hy]
      rw [hids, b] at a
      injection a with a
      exact a.symm
    have := h2 x (normL_mem.1 (List.mem_of_getElem? hx))
    unfold rsame1 at this
    rw [hid, findN_one hk (normL_mem.1 (List.mem_of_getElem? hy))] at this
    exact this
theorem norm_up {L : List Nd} {i : Nat} {x y : Nd} (hx : (normL L)[i]? = some x) (hy : (normL L)[i + 1]? = some y) : x.id ≤ y.id := by
  obtain ⟨h1, rfl⟩ := List.getElem?_eq_some_iff.1 hx
  obtain ⟨h2, rfl⟩ := List.getElem?_eq_some_iff.1 hy
  exact List.pairwise_iff_getElem.1 (normL_sorted L) i (i + 1) h1 h2 (by omega)
/-- A node with another number of tasks. -/
def parN (x : Nd) (p : Int) : Nd := ⟨x.id, x.kind, p, x.fr, x.pg, x.rt⟩
theorem unlike_par {L t : List Nd} {x : Nd} {p : Int} (h : normL L = x :: t) (hp : p ≠ x.par) : sameL L (parN x p :: t) = false := by
  unfold sameL
  have hs : SortedN (parN x p :: t) := by
    have := normL_sorted L
    rw [h] at this
    have h2 := List.pairwise_cons.1 this
    exact List.pairwise_cons.2 ⟨h2.1, h2.2⟩
  rw [normL_self hs, h]
  refine eqL_bad (k := 0) rfl rfl ?_
  unfold sameNd parN
  simp only [decide_true, Bool.true_and]
  rw [decide_eq_false (fun h => hp h.symm)]
  rfl
end Go.Proofs.Ytddngibfhklnfaa
