/- The plain law of items: their bytes come back, and which bytes are one's. No program in sight. -/
import Derived.Test.YtkmpcddhbdndkaaItemD
import Derived.Test.YtkmpcddhbdndkaaOctetWrites
namespace Go.Proofs.Ytkmpcddhbdndkaa
open Go.RowKit Go.Fb
/-- The number of the four bytes from there on. -/
def nAt (l : List Int) (i : Nat) : Int := fourI (fourU (l.drop i) 4)
theorem numOf_nAt {s : ByteArray} {l : List Int} {i : Nat} (h : bl s = l.drop i) : numOf s = nAt l i := by rw [numOf, h, nAt]
theorem bl_rest (s : ByteArray) (i : Nat) : bl (s.extract i s.size) = (bl s).drop i := by
  rw [bl_extract, List.take_of_length_le (by rw [bl_length]; omega)]
theorem leftS_bl (s : ByteArray) : ∀ k, 4 * k + 1 ≤ s.size → bl (leftS s k) = (bl s).drop (4 * k + 1)
  | 0, _ => bl_rest s 1
  | k + 1, h => by
    have ih := leftS_bl s k (by omega)
    have hz : ¬ (leftS s k).size < 4 := by
      have h2 := congrArg List.length ih
      rw [bl_length, List.length_drop, bl_length] at h2
      omega
    show bl (rnumOf (leftS s k)).2.2 = _
    rw [rnumOf, if_neg hz]
    show bl ((leftS s k).extract 4 (leftS s k).size) = _
    rw [bl_rest, ih, List.drop_drop]
    congr 1
theorem numK_nAt (s : ByteArray) (k : Nat) (h : 4 * k + 5 ≤ s.size) : numK s k = nAt (bl s) (4 * k + 1) := by
  have hb := leftS_bl s k (by omega)
  have hz : ¬ (leftS s k).size < 4 := by
    have h2 := congrArg List.length hb
    rw [bl_length, List.length_drop, bl_length] at h2
    omega
  rw [numK, rnumOf, if_neg hz]
  exact numOf_nAt hb
theorem four_bytes {l : List Int} (h : 4 ≤ l.length) : ∃ a b c d r, l = a :: b :: c :: d :: r := by
  match l, h with
  | a :: b :: c :: d :: r, _ => exact ⟨a, b, c, d, r, rfl⟩
theorem nAt_fits {l : List Int} (hr : ∀ x ∈ l, 0 ≤ x ∧ x < 256) (i : Nat) : fitsB (nAt l i) = true := by
  obtain ⟨h0, _, h1⟩ := fourU_bound (l := l.drop i) (fun x hx => hr x (List.mem_of_mem_drop hx)) 4
  have := h1 (by omega)
  unfold fitsB nAt fourI
  rw [decide_eq_true_eq]
  split <;> omega
theorem be_nAt {l : List Int} (hr : ∀ x ∈ l, 0 ≤ x ∧ x < 256) {i : Nat} (h : i + 4 ≤ l.length) : be (nAt l i) = (l.drop i).take 4 := by
  obtain ⟨a, b, c, d, r, e⟩ := four_bytes (l := l.drop i) (by rw [List.length_drop]; omega)
  have hm : ∀ x ∈ l.drop i, 0 ≤ x ∧ x < 256 := fun x hx => hr x (List.mem_of_mem_drop hx)
  rw [nAt, e]
  rw [e] at hm
  have ha := hm a (by simp)
  have hb := hm b (by simp)
  have hc := hm c (by simp)
  have hd := hm d (by simp)
  simp only [fourU, List.take, List.foldl, fourI, be]
  split <;> simp only [List.cons.injEq, and_true] <;> omega
theorem nAt_be {l r : List Int} {n : Int} {i : Nat} (h : l.drop i = be n ++ r) (hf : fitsB n = true) : nAt l i = n := by
  rw [nAt, h, fourU_be, fourI_be hf]
/-- Are bytes an item's? -/
def rightL (l : List Int) : Bool :=
  if l.length = 13 ∧ l[0]? = some 82 then recB (nAt l 1) (nAt l 5) (nAt l 9)
  else if l.length = 9 ∧ l[0]? = some 66 then decide (0 ≤ nAt l 1) && (nAt l 5 == 0 || nAt l 5 == 1) else false
theorem isB_bl (s : ByteArray) : isB s = ((bl s)[0]? == some 66) := by
  have h1 : ∀ x : ByteArray, (x.toList == [66]) = (bl x == [66]) := fun x => by
    rw [ByteArray.toList_eq]
    unfold bl
    generalize x.data.toList = y
    match y with
    | [] => rfl
    | [a] =>
      rw [Bool.eq_iff_iff]
      simp only [List.map, beq_iff_eq, List.cons.injEq, and_true]
      constructor
      · rintro rfl; rfl
      · intro h
        exact UInt8.toNat_inj.1 (by show a.toNat = 66; omega)
    | a :: b :: r => simp
  rw [isB, h1, bl_extract]
  match bl s with
  | [] => rfl
  | a :: r => simp
theorem put_range {b : Bool} {k re im ep : Int} {p : Bool} {l : List Int} (h : putI b k re im ep p = some l) : ∀ x ∈ l, 0 ≤ x ∧ x < 256 := by
  unfold putI at h
  split at h <;> split at h <;> simp at h
  all_goals
    subst h
    intro x hx
    simp only [List.mem_cons, List.mem_append] at hx
  · rcases hx with rfl | hx | hx
    · omega
    · exact be_range _ x hx
    · exact be_range _ x hx
  · rcases hx with rfl | hx | hx | hx
    · omega
    · exact be_range _ x hx
    · exact be_range _ x hx
    · exact be_range _ x hx
theorem str_eq {l : List Int} (h : ∀ x ∈ l, 0 ≤ x ∧ x < 256) (s : ByteArray) : strOfNums l = s ↔ l = bl s := by
  constructor
  · rintro rfl; exact (bl_strOfNums h).symm
  · rintro rfl; exact bl_inj (bl_strOfNums (bl_range s))
theorem goodI_iff (s : ByteArray) : goodI s = true ↔ (candI s).put = some (bl s) := by
  unfold goodI
  cases hp : (candI s).put with
  | none => simp
  | some l =>
    have hr := put_range hp
    rw [Option.isSome_some, Bool.true_and, decide_eq_true_eq]
    show strOfNums l = s ↔ _
    rw [str_eq hr s]
    simp
theorem candI_of {l : List Int} (hr : ∀ x ∈ l, 0 ≤ x ∧ x < 256) (h0 : l[0]? = some 66) (h9 : 9 ≤ l.length) : candI (strOfNums l) = ⟨true, 0, 0, 0, nAt l 1, nAt l 5 == 1⟩ := by
  have hz : (strOfNums l).size = l.length := strOfNums_size l
  have hB : isB (strOfNums l) = true := by rw [isB_bl, bl_strOfNums hr, h0]; rfl
  unfold candI
  rw [hB, if_pos rfl, numK_nAt _ 0 (by omega), numK_nAt _ 1 (by omega), bl_strOfNums hr]
theorem candI_of' {l : List Int} (hr : ∀ x ∈ l, 0 ≤ x ∧ x < 256) (h0 : l[0]? = some 82) (h9 : 13 ≤ l.length) : candI (strOfNums l) = ⟨false, nAt l 1, nAt l 5, nAt l 9, 0, false⟩ := by
  have hz : (strOfNums l).size = l.length := strOfNums_size l
  have hB : isB (strOfNums l) = false := by rw [isB_bl, bl_strOfNums hr, h0]; rfl
  unfold candI
  rw [hB, if_neg (by simp), numK_nAt _ 0 (by omega), numK_nAt _ 1 (by omega), numK_nAt _ 2 (by omega), bl_strOfNums hr]
/-- What comes back of an item. -/
def Itm.back (i : Itm) : Itm := if i.b then ⟨true, 0, 0, 0, i.ep, i.p⟩ else ⟨false, i.k, i.re, i.im, 0, false⟩
theorem put_back {i : Itm} {l : List Int} (h : i.put = some l) : candI (strOfNums l) = i.back ∧ goodI (strOfNums l) = true := by
  have hr := put_range h
  have key : candI (strOfNums l) = i.back := by
    obtain ⟨b, k, re, im, ep, p⟩ := i
    unfold Itm.put putI at h
    split at h
    · rename_i hb
      replace hb : b = true := hb
      subst hb
      split at h
      · rename_i he
        replace he : 0 ≤ ep ∧ ep ≤ 2147483647 := he
        simp at h
        subst h
        have f1 : fitsB ep = true := by simp [fitsB]; omega
        have f2 : fitsB (if p = true then 1 else 0) = true := by cases p <;> rfl
        rw [candI_of hr rfl (by simp [be_length])]
        have e1 : nAt (66 :: (be ep ++ be (if p = true then 1 else 0))) 1 = ep := nAt_be (r := be (if p = true then 1 else 0)) rfl f1
        have e2 : nAt (66 :: (be ep ++ be (if p = true then 1 else 0))) 5 = if p = true then 1 else 0 := nAt_be (r := []) (by simp [be]) f2
        rw [e1, e2]
        cases p <;> rfl
      · simp at h
    · rename_i hb
      replace hb : b = false := by simpa using hb
      subst hb
      split at h
      · rename_i he
        simp at h
        subst h
        obtain ⟨f1, f2, f3⟩ := recB_fits he
        rw [candI_of' hr rfl (by simp [be_length])]
        have e1 : nAt (82 :: (be k ++ (be re ++ be im))) 1 = k := nAt_be (r := be re ++ be im) rfl f1
        have e2 : nAt (82 :: (be k ++ (be re ++ be im))) 5 = re := nAt_be (r := be im) (by simp [be]) f2
        have e3 : nAt (82 :: (be k ++ (be re ++ be im))) 9 = im := nAt_be (r := []) (by simp [be]) f3
        show Itm.mk _ _ _ _ _ _ = _
        rw [e1, e2, e3]
        rfl
      · simp at h
  refine ⟨key, ?_⟩
  rw [goodI_iff, key, bl_strOfNums hr, ← h]
  obtain ⟨b, k, re, im, ep, p⟩ := i
  cases b <;> rfl
theorem parts9 {l : List Int} (h : l.length = 9) {a : Int} (h0 : l[0]? = some a) : l = a :: ((l.drop 1).take 4 ++ (l.drop 5).take 4) := by
  match l, h with
  | [a0, a1, a2, a3, a4, a5, a6, a7, a8], _ => simp at h0; simp [h0]
theorem parts13 {l : List Int} (h : l.length = 13) {a : Int} (h0 : l[0]? = some a) : l = a :: ((l.drop 1).take 4 ++ ((l.drop 5).take 4 ++ (l.drop 9).take 4)) := by
  match l, h with
  | [a0, a1, a2, a3, a4, a5, a6, a7, a8, a9, a10, a11, a12], _ => simp at h0; simp [h0]
theorem Itm.put_mk (b : Bool) (k re im ep : Int) (p : Bool) : Itm.put ⟨b, k, re, im, ep, p⟩ = putI b k re im ep p := rfl
theorem good_right (s : ByteArray) : goodI s = rightL (bl s) := by
  have hr := bl_range s
  have hs : strOfNums (bl s) = s := bl_inj (bl_strOfNums hr)
  have hz := bl_length s
  rw [Bool.eq_iff_iff]
  constructor
  · intro hg
    rw [goodI_iff] at hg
    rcases Bool.eq_false_or_eq_true (isB s) with hB | hB
    · have hc : candI s = ⟨true, 0, 0, 0, numK s 0, numK s 1 == 1⟩ := by unfold candI; rw [if_pos hB]
      rw [hc, Itm.put_mk, putI, if_pos rfl] at hg
      split at hg
      · rename_i he
        injection hg with hg
        have h9 : (bl s).length = 9 := by rw [← hg]; rfl
        have e1 := numK_nAt s 0 (by omega)
        have h5 : nAt (bl s) 5 = if (numK s 1 == 1) = true then 1 else 0 := by
          rw [← hg]
          refine nAt_be (r := []) (by simp [be]) ?_
          cases (numK s 1 == 1) <;> rfl
        unfold rightL
        rw [if_neg (by omega), if_pos ⟨h9, by rw [← hg]; rfl⟩, h5, ← e1]
        cases (numK s 1 == 1) <;> simp [he.1]
      · cases hg
    · have hc : candI s = ⟨false, numK s 0, numK s 1, numK s 2, 0, false⟩ := by unfold candI; rw [if_neg (by rw [hB]; simp)]
      rw [hc, Itm.put_mk, putI, if_neg (by simp)] at hg
      split at hg
      · rename_i he
        injection hg with hg
        have h9 : (bl s).length = 13 := by rw [← hg]; rfl
        have e1 := numK_nAt s 0 (by omega)
        have e2 := numK_nAt s 1 (by omega)
        have e3 := numK_nAt s 2 (by omega)
        unfold rightL
        rw [if_pos ⟨h9, by rw [← hg]; rfl⟩, ← e1, ← e2, ← e3]
        exact he
      · cases hg
  · intro h
    rw [goodI_iff]
    unfold rightL at h
    split at h
    · rename_i hc
      have hcand := candI_of' hr hc.2 (by omega)
      rw [hs] at hcand
      rw [hcand, Itm.put_mk, putI, if_neg (by simp), if_pos h]
      rw [be_nAt hr (by omega), be_nAt hr (by omega), be_nAt hr (by omega)]
      congr 1
      exact (parts13 hc.1 hc.2).symm
    · split at h
      · rename_i hc
        have hcand := candI_of hr hc.2 (by omega)
        rw [hs] at hcand
        simp only [Bool.and_eq_true, Bool.or_eq_true, decide_eq_true_eq, beq_iff_eq] at h
        obtain ⟨h1, h5⟩ := h
        have hf := of_decide_eq_true (nAt_fits hr 1)
        have e5 : (if (nAt (bl s) 5 == 1) = true then (1 : Int) else 0) = nAt (bl s) 5 := by
          rcases h5 with h5 | h5 <;> rw [h5] <;> rfl
        rw [hcand, Itm.put_mk, putI, if_pos rfl, if_pos ⟨h1, hf.2⟩, e5]
        rw [be_nAt hr (by omega), be_nAt hr (by omega)]
        congr 1
        exact (parts9 hc.1 hc.2).symm
      · cases h
end Go.Proofs.Ytkmpcddhbdndkaa
