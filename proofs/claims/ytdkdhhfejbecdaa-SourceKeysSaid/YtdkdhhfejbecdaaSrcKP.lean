/- Plain law of SourceKeys. -/
import Derived.Test.YtdkdhhfejbecdaaSpE
namespace Go.Proofs.Ytdkdhhfejbecdaa
open Go.RowKit Go.Fb
theorem goodN_all : ∀ {l : List (Nat → Int)} {x : Nat → Int}, x ∈ l.take (goodN l) → recB (x 0) (x 1) (x 2) = true
  | [], x, h => by simp at h
  | y :: l, x, h => by
    unfold goodN at h
    split at h
    · rename_i hy
      rw [List.take_succ_cons] at h
      rcases List.mem_cons.1 h with rfl | h
      · exact hy
      · exact goodN_all h
    · simp at h
theorem ofK_app (a b : List (Nat → Int)) (k : Int) : ofK (a ++ b) k = ofK a k ++ ofK b k := by unfold ofK; rw [List.filter_append]
theorem ofK_none {l : List (Nat → Int)} {k : Int} (h : ∀ x ∈ l, x 0 ≠ k) : ofK l k = [] := by
  unfold ofK
  rw [List.filter_eq_nil_iff]
  intro x hx
  simpa using h x hx
/-- The partitions' lists of records. -/
abbrev partsOf (r : Nat → Int) (ls : List (Nat → Int)) : Nat → List (Nat → Int) := addR r noR ls
theorem partsOf_eq (r : Nat → Int) (ls : List (Nat → Int)) (i : Nat) : partsOf r ls i = ls.filter fun x => decide (tk r x = (i : Int)) := by simp [partsOf, addR, noR]
theorem ofK_part {r : Nat → Int} {ls : List (Nat → Int)} {k : Int} {i0 : Nat} (h0 : r (k % 8).toNat = (i0 : Int)) (i : Nat) : ofK (partsOf r ls i) k = if i = i0 then ofK ls k else [] := by
  rw [partsOf_eq]
  unfold ofK
  rw [List.filter_filter]
  by_cases c : i = i0
  · rw [if_pos c]
    apply List.filter_congr
    intro x _
    by_cases hx : x 0 = k
    · have : tk r x = (i : Int) := by unfold tk; rw [hx, h0, c]
      simp [hx, this]
    · simp [hx]
  · rw [if_neg c, List.filter_eq_nil_iff]
    intro x _
    by_cases hx : x 0 = k
    · have : tk r x = (i0 : Int) := by unfold tk; rw [hx, h0]
      simp [hx, this]
      omega
    · simp [hx]
theorem ofK_flat {r : Nat → Int} {ls : List (Nat → Int)} {k : Int} {i0 : Nat} (h0 : r (k % 8).toNat = (i0 : Int)) : ∀ P, ofK (flatR (partsOf r ls) P) k = if i0 < P then ofK ls k else []
  | 0 => rfl
  | P + 1 => by
    rw [flatR_succ, ofK_app, ofK_flat h0 P, ofK_part h0]
    by_cases c : i0 < P
    · rw [if_pos c, if_neg (show ¬ P = i0 by omega), if_pos (show i0 < P + 1 by omega), List.append_nil]
    · rw [if_neg c]
      by_cases e : P = i0
      · rw [if_pos e, if_pos (show i0 < P + 1 by omega)]; rfl
      · rw [if_neg e, if_neg (show ¬ i0 < P + 1 by omega)]; rfl
theorem ofK_all {P : Nat} {r : Nat → Int} (hr : right8 P r = true) (ls : List (Nat → Int)) (k : Int) : ofK (flatR (partsOf r ls) P) k = ofK ls k := by
  obtain ⟨i, hi, h⟩ := tk_in hr (fun _ => k)
  rw [ofK_flat (i0 := i) h, if_pos hi]
theorem flat_bound {R : Nat → List (Nat → Int)} {m : Nat} (h : ∀ i, (R i).length ≤ m) : ∀ k, (flatR R k).length ≤ k * m
  | 0 => by simp [flatR]
  | k + 1 => by
    rw [flatR_succ, List.length_append, Nat.succ_mul]
    exact Nat.add_le_add (flat_bound h k) (h k)
theorem ofK_mem {l : List (Nat → Int)} {k : Int} : (∃ y ∈ l, y 0 = k) ↔ ofK l k ≠ [] := by
  unfold ofK
  rw [ne_eq, List.filter_eq_nil_iff]
  constructor
  · rintro ⟨y, hy, e⟩ h
    exact h y hy (by simpa using e)
  · intro h
    refine Classical.byContradiction fun hc => h fun y hy he => hc ⟨y, hy, by simpa using he⟩
theorem keys_flat {P : Nat} {r : Nat → Int} (hr : right8 P r = true) (ls : List (Nat → Int)) (k : Int) : k ∈ keysL (flatR (partsOf r ls) P) ↔ ofK ls k ≠ [] := by
  rw [keysL_mem, ofK_mem, ofK_all hr]
/-- How many records some keys have together. -/
def sumK (ls : List (Nat → Int)) (K : List Int) : Int := (K.map fun k => ((ofK ls k).length : Int)).sum
theorem sumK_cons (ls : List (Nat → Int)) (k : Int) (K : List Int) : sumK ls (k :: K) = ((ofK ls k).length : Int) + sumK ls K := by simp [sumK]
theorem sumK_nil (K : List Int) : sumK [] K = 0 := by
  induction K with
  | nil => rfl
  | cons p K ih => rw [sumK_cons, ih]; rfl
theorem ofK_cons (x : Nat → Int) (l : List (Nat → Int)) (k : Int) : ((ofK (x :: l) k).length : Int) = (if x 0 = k then 1 else 0) + ((ofK l k).length : Int) := by
  unfold ofK
  rw [List.filter_cons]
  by_cases c : x 0 = k
  · rw [if_pos (by simpa using c), if_pos c]; simp; omega
  · rw [if_neg (by simpa using c), if_neg c]; simp
theorem sumK_no {x : Nat → Int} {l : List (Nat → Int)} : ∀ {K : List Int}, x 0 ∉ K → sumK (x :: l) K = sumK l K
  | [], _ => rfl
  | p :: K, h => by
    simp only [List.mem_cons, not_or] at h
    rw [sumK_cons, sumK_cons, sumK_no h.2, ofK_cons, if_neg h.1]; omega
theorem sumK_yes {x : Nat → Int} {l : List (Nat → Int)} : ∀ {K : List Int}, K.Nodup → x 0 ∈ K → sumK (x :: l) K = 1 + sumK l K
  | [], _, h => by cases h
  | p :: K, hn, h => by
    obtain ⟨h1, h2⟩ := List.nodup_cons.1 hn
    rw [sumK_cons, sumK_cons, ofK_cons]
    by_cases c : x 0 = p
    · rw [if_pos c, sumK_no (by rw [c]; exact h1)]; omega
    · rw [if_neg c, sumK_yes h2 ((List.mem_cons.1 h).resolve_left c)]; omega
theorem sumK_all (K : List Int) (hn : K.Nodup) : ∀ l : List (Nat → Int), (∀ x ∈ l, x 0 ∈ K) → sumK l K = (l.length : Int)
  | [], _ => sumK_nil K
  | x :: l, h => by
    rw [sumK_yes hn (h x (by simp)), sumK_all K hn l (fun y hy => h y (by simp [hy]))]; simp; omega
theorem sumK_take {ls : List (Nat → Int)} {K : List Int} {i : Nat} {k : Int} (h : K[i]? = some k) : sumK ls (K.take (i + 1)) = sumK ls (K.take i) + ((ofK ls k).length : Int) := by
  unfold sumK
  rw [List.take_add_one, h]
  simp
theorem keys_nodup (l : List (Nat → Int)) : (keysL l).Nodup := by
  rw [List.nodup_iff_pairwise_ne]
  exact (keysL_rises l).imp fun h => by omega
theorem sum_all {P : Nat} {r : Nat → Int} (hr : right8 P r = true) (ls : List (Nat → Int)) : sumK ls (keysL (flatR (partsOf r ls) P)) = (ls.length : Int) :=
  sumK_all _ (keys_nodup _) ls fun x hx => (keys_flat hr ls _).2 (ofK_mem.1 ⟨x, hx, rfl⟩)
theorem sumK_le (ls : List (Nat → Int)) (K : List Int) (i : Nat) : 0 ≤ sumK ls (K.take i) ∧ sumK ls (K.take i) ≤ sumK ls K := by
  have pos : ∀ M : List Int, 0 ≤ sumK ls M := by
    intro M
    induction M with
    | nil => exact Int.le_refl _
    | cons x M ih => rw [sumK_cons]; omega
  have e : sumK ls (K.take i) + sumK ls (K.drop i) = sumK ls K := by
    unfold sumK
    rw [← List.sum_append, ← List.map_append, List.take_append_drop]
  have h1 := pos (K.take i)
  have h2 := pos (K.drop i)
  omega
theorem of_minus {P : Nat} {r : Nat → Int} (hr : right8 P r = true) (xs : List (Nat → Int)) : ofK (flatR (partsOf r (xs.take (goodN xs))) P) (-1) = [] := by
  rw [ofK_all hr]
  refine ofK_none fun x hx e => ?_
  have h := goodN_all hx
  unfold recB at h
  simp at h
  omega
theorem ofK_snoc {l : List (Nat → Int)} {j : Nat} {x : Nat → Int} (h : l[j]? = some x) (k : Int) : ofK (l.take (j + 1)) k = if x 0 = k then ofK (l.take j) k ++ [x] else ofK (l.take j) k := by
  rw [List.take_add_one, h]
  show ofK (l.take j ++ [x]) k = _
  rw [ofK_app]
  by_cases c : x 0 = k
  · rw [if_pos c]; simp [ofK, c]
  · rw [if_neg c]; simp [ofK, c]
theorem reads_take3 {w : World} {B n G : Nat} {A : Option Addr} {l : List (Nat → Int)} (h : Reads w B 3 A n (cellsR l)) (hn : n = l.length) (hG : G ≤ n) : Reads w B 3 A G (cellsR (l.take G)) := by
  have hpre : cellsR l = cellsR (l.take G) ++ cellsR (l.drop G) := by
    unfold cellsR
    rw [← List.flatMap_append, List.take_append_drop]
  refine ⟨by rw [cellsR_length, List.length_take]; omega, fun h0 => ?_⟩
  obtain ⟨b, off, e, hb, hc⟩ := h.2 (by omega)
  refine ⟨b, off, e, hb, fun j u hu => hc j u ?_⟩
  rw [hpre, List.getElem?_append_left (by
    rcases Nat.lt_or_ge j (cellsR (l.take G)).length with h | h
    · exact h
    · rw [List.getElem?_eq_none h] at hu; cases hu)]
  exact hu
end Go.Proofs.Ytdkdhhfejbecdaa
