/- forebaylaw01.OctetWrites: any numbers and texts are written as the document says, or refused, and read again. -/
import Derived.Test.YtkmpcddhbdndkaaOctetRef
import Derived.Test.YtkmpcddhbdndkaaArgs
namespace Go.Proofs.Ytkmpcddhbdndkaa
open Go.RowKit Go.Fb

theorem fourU_be (n : Int) (l : List Int) : fourU (be n ++ l) 4 = n % 4294967296 := by
  simp [fourU, be]
  omega
theorem fourI_be {n : Int} (h : fitsB n = true) : fourI (n % 4294967296) = n := by
  obtain ⟨h1, h2⟩ : -2147483648 ≤ n ∧ n ≤ 2147483647 := of_decide_eq_true h
  unfold fourI
  split <;> omega
theorem rnumOf_be {s : ByteArray} {n : Int} {l : List Int} (h : bl s = be n ++ l) (hf : fitsB n = true) : rnumOf s = (n, 0, s.extract 4 s.size) ∧ bl (s.extract 4 s.size) = l := by
  have hz : s.size = 4 + l.length := by rw [← bl_length, h, List.length_append, be_length]
  have hn : numOf s = n := by rw [numOf, h, fourU_be, fourI_be hf]
  refine ⟨?_, ?_⟩
  · rw [rnumOf, if_neg (by omega), hn]
  · rw [bl_extract, List.take_of_length_le (by rw [bl_length]; omega), h, List.drop_left' (be_length n)]
theorem rtextOf_be {s t : ByteArray} {l : List Int} (h : bl s = be t.size ++ (bl t ++ l)) (hf : t.size ≤ 1000000) : ∃ r, rtextOf s t.size = (t, 0, r) ∧ bl r = l := by
  have hz : s.size = 4 + (t.size + l.length) := by rw [← bl_length, h, List.length_append, be_length, List.length_append, bl_length]
  have hn : numOf s = t.size := by rw [numOf, h, fourU_be, fourI_be (by simp [fitsB]; omega)]
  refine ⟨s.extract (4 + t.size) s.size, ?_, ?_⟩
  · rw [rtextOf, if_neg (by omega), hn, if_neg (by omega), if_neg (by omega), Int.toNat_natCast]
    have : s.extract 4 (4 + t.size) = t := by
      apply bl_inj
      rw [bl_extract, h, ← List.append_assoc, List.take_left' (by rw [List.length_append, be_length, bl_length]), List.drop_left' (be_length _)]
    rw [this]
  · rw [bl_extract, List.take_of_length_le (by rw [bl_length]; omega), h, ← List.append_assoc, List.drop_left' (by rw [List.length_append, be_length, bl_length])]

end Go.Proofs.Ytkmpcddhbdndkaa
