/- forebaylaw01.OctetReads: any bytes are read as the document says. -/
import Derived.Test.YtkmkdodhahcpdaaOctetRef
namespace Go.Proofs.Ytkmkdodhahcpdaa
open Go.RowKit Go.Fb

set_option maxRecDepth 100000 in
set_option maxHeartbeats 8000000 in
theorem walk_OctetReads (s : ByteArray) (hm : s.size ≤ maxLen) (x1 : Int) (_ : (Lit.int .i64 x1).wf = true) (x2 : Int) (_ : (Lit.int .i64 x2).wf = true) (w : World) :
    Calls Try.prog 12 #[.string s, .int .i64 x1, .int .i64 x2] w fun e w' => e = .returned (.bool true) ∧ Below w.heap.size w w' := by
  by_cases hl : s.size ≤ 300
  case neg =>
    unfold maxLen at hm
    go_enter Try.func12, Try.ntmps12
    go_wp2_with (go_at_call 15; refine (awake01 _).mono ?_; rintro e w1 ⟨rfl, hb1⟩)
    go_ret
    exact ⟨rfl, hb1⟩
  have hg := get_any s
  have hn := fun g w h => rnum_any g s w h hm
  have hw := fun g w h => within_any g s x1 x2 w h hm
  have ht := fun g w h => rtext_any g s x2 w h hm
  have hmm := hm
  unfold maxLen at hmm
  by_cases hs : s.size < 4
  case pos =>
    have hd : decide (4 ≤ s.size) = false := by simp; omega
    have hg := fun w => hg w hm
    simp only [if_pos hs, hd] at hg
    rw [show rnumOf s = (0, 3, s) from if_pos hs] at hn
    rw [show withinOf s x1 x2 = (0, 3, s) from if_pos hs] at hw
    rw [show rtextOf s x2 = (ByteArray.empty, 3, s) from if_pos hs] at ht
    have HG := Lib.hid hg
    have HN := Lib.hid hn
    have HW := Lib.hid hw
    have HT := Lib.hid ht
    clear hg hn hw ht
    go_enter Try.func12, Try.ntmps12
    go_wp2_with (go_at_call 15; refine (awake01 _).mono ?_; rintro e w1 ⟨rfl, hb1⟩)
    refine (HG.out _).mono ?_
    rintro e wg ⟨rfl, rfl⟩
    go_wp2_with fail
    refine (new_any _ _).mono ?_
    rintro e wg ⟨rfl, rfl⟩
    go_wp2_with fail
    refine (new_any _ _).mono ?_
    rintro e wg ⟨rfl, rfl⟩
    go_wp2_with fail
    refine (new_any _ _).mono ?_
    rintro e wg ⟨rfl, rfl⟩
    go_wp2_with fail
    obtain ⟨w2, hw2⟩ : ∃ w2, w2 = ((w1.alloc (.cells #[.string s] 108)).alloc (.cells #[.string s] 108)).alloc (.cells #[.string s] 108) := ⟨_, rfl⟩
    rw [← hw2]
    have ra : Rd w2 w1.heap.size s := by rw [hw2]; exact ((Blk.new _ _ _).alloc _).alloc _
    have rb : Rd w2 (w1.heap.size + 1) s := by
      rw [hw2]
      have h := (Blk.new (w1.alloc (.cells #[.string s] 108)) 108 #[.string s]).alloc (.cells #[.string s] 108)
      rwa [show (w1.alloc (.cells #[.string s] 108)).heap.size = w1.heap.size + 1 by simp] at h
    have rc : Rd w2 (w1.heap.size + 1 + 1) s := by
      rw [hw2]
      have h := Blk.new ((w1.alloc (.cells #[.string s] 108)).alloc (.cells #[.string s] 108)) 108 #[.string s]
      rwa [show ((w1.alloc (.cells #[.string s] 108)).alloc (.cells #[.string s] 108)).heap.size = w1.heap.size + 1 + 1 by simp] at h
    have hsz := hb1.size
    have hb2 : Below w.heap.size w w2 := by
      rw [hw2]
      exact ((hb1.alloc hsz _).alloc (by simp; omega) _).alloc (by simp; omega) _
    generalize w1.heap.size = G at *
    clear hw2 hb1
    have HB := Lib.hid hb2
    have RA := Lib.hid ra
    have RB := Lib.hid rb
    have RC := Lib.hid rc
    clear hb2 ra rb rc
    refine (HN.out _ _ RA.out).mono ?_
    rintro e w3 ⟨rfl, ra3, f3⟩
    have RA3 := Lib.hid ra3
    have RB3 := Lib.hid (RB.out.fr f3 RB.out.lt (by simp))
    have RC3 := Lib.hid (RC.out.fr f3 RC.out.lt (by simp; omega))
    have HB3 := Lib.hid (HB.out.trans (f3.mono (B' := w.heap.size) (L' := []) HB.out.size (by simp; omega)).below)
    clear ra3 f3 RA RB RC HB
    go_wp2_with (go_at_call 48; refine (left_any _ _ _ RA3.out).mono ?_; rintro e w' ⟨rfl, rfl⟩)
    refine (HW.out _ _ RB3.out).mono ?_
    rintro e w4 ⟨rfl, rb4, f4⟩
    have RB4 := Lib.hid rb4
    have RC4 := Lib.hid (RC3.out.fr f4 RC3.out.lt (by simp))
    have HB4 := Lib.hid (HB3.out.trans (f4.mono (B' := w.heap.size) (L' := []) HB3.out.size (by simp; omega)).below)
    clear rb4 f4 RA3 RB3 RC3 HB3
    go_wp2_with (go_at_call 48; refine (left_any _ _ _ RB4.out).mono ?_; rintro e w' ⟨rfl, rfl⟩)
    refine (HT.out _ _ RC4.out).mono ?_
    rintro e w5 ⟨rfl, rc5, f5⟩
    have RC5 := Lib.hid rc5
    have HB5 := Lib.hid (HB4.out.trans (f5.mono (B' := w.heap.size) (L' := []) HB4.out.size (by simp; omega)).below)
    clear rc5 f5 RB4 RC4 HB4
    go_wp2_with (go_at_call 48; refine (left_any _ _ _ RC5.out).mono ?_; rintro e w' ⟨rfl, rfl⟩)
    go_ret
    exact ⟨by first | (simp; done) | (simp; omega), HB5.out⟩
  have hd : decide (4 ≤ s.size) = true := by simp; omega
  have hg := fun w => hg w hm
  simp only [if_neg hs, hd] at hg
  rw [show rnumOf s = (numOf s, 0, s.extract 4 s.size) from if_neg hs] at hn
  obtain ⟨hb1, hb2⟩ := numOf_bounds s
  have sz4 : ((s.extract 4 s.size).size : Int) = (s.size : Int) - 4 := by rw [ByteArray.size_extract]; omega
  have hW1 : numOf s < x1 ∨ x2 < numOf s → withinOf s x1 x2 = (0, 2, s) := fun h => by rw [withinOf, if_neg hs, if_pos h]
  have hW2 : ¬ numOf s < x1 → ¬ x2 < numOf s → withinOf s x1 x2 = (numOf s, 0, s.extract 4 s.size) := fun h h' => by rw [withinOf, if_neg hs, if_neg (by omega)]
  have hT1 : numOf s < 0 ∨ x2 < numOf s → rtextOf s x2 = (ByteArray.empty, 2, s) := fun h => by rw [rtextOf, if_neg hs, if_pos h]
  have hT2 : ¬ numOf s < 0 → ¬ x2 < numOf s → (s.size : Int) - 4 < numOf s → rtextOf s x2 = (ByteArray.empty, 3, s) := fun h h' h'' => by rw [rtextOf, if_neg hs, if_neg (by omega), if_pos h'']
  have hT3 : ¬ numOf s < 0 → ¬ x2 < numOf s → ¬ (s.size : Int) - 4 < numOf s → rtextOf s x2 = (s.extract 4 (4 + (numOf s).toNat), 0, s.extract (4 + (numOf s).toNat) s.size) := fun h h' h'' => by
    rw [rtextOf, if_neg hs, if_neg (by omega), if_neg h'']
  by_cases hN : numOf s < 0
  case pos =>
    rw [hT1 (.inl hN)] at ht
    have key : numOf s < x1 ∨ (¬ numOf s < x1 ∧ x2 < numOf s) ∨ (¬ numOf s < x1 ∧ ¬ x2 < numOf s) := by omega
    rcases key with c1 | ⟨c1, c2⟩ | ⟨c1, c2⟩
    all_goals
      (first | rw [hW1 (.inl c1)] at hw | rw [hW1 (.inr c2)] at hw | rw [hW2 c1 c2] at hw)
    all_goals
      clear hW1 hW2 hT1 hT2 hT3
      generalize numOf s = N at *
      have HG := Lib.hid hg
      have HN := Lib.hid hn
      have HW := Lib.hid hw
      have HT := Lib.hid ht
      clear hg hn hw ht
      go_enter Try.func12, Try.ntmps12
      go_wp2_with (go_at_call 15; refine (awake01 _).mono ?_; rintro e w1 ⟨rfl, hb1⟩)
      refine (HG.out _).mono ?_
      rintro e wg ⟨rfl, rfl⟩
      go_wp2_with fail
      refine (new_any _ _).mono ?_
      rintro e wg ⟨rfl, rfl⟩
      go_wp2_with fail
      refine (new_any _ _).mono ?_
      rintro e wg ⟨rfl, rfl⟩
      go_wp2_with fail
      refine (new_any _ _).mono ?_
      rintro e wg ⟨rfl, rfl⟩
      go_wp2_with fail
      obtain ⟨w2, hw2⟩ : ∃ w2, w2 = ((w1.alloc (.cells #[.string s] 108)).alloc (.cells #[.string s] 108)).alloc (.cells #[.string s] 108) := ⟨_, rfl⟩
      rw [← hw2]
      have ra : Rd w2 w1.heap.size s := by rw [hw2]; exact ((Blk.new _ _ _).alloc _).alloc _
      have rb : Rd w2 (w1.heap.size + 1) s := by
        rw [hw2]
        have h := (Blk.new (w1.alloc (.cells #[.string s] 108)) 108 #[.string s]).alloc (.cells #[.string s] 108)
        rwa [show (w1.alloc (.cells #[.string s] 108)).heap.size = w1.heap.size + 1 by simp] at h
      have rc : Rd w2 (w1.heap.size + 1 + 1) s := by
        rw [hw2]
        have h := Blk.new ((w1.alloc (.cells #[.string s] 108)).alloc (.cells #[.string s] 108)) 108 #[.string s]
        rwa [show ((w1.alloc (.cells #[.string s] 108)).alloc (.cells #[.string s] 108)).heap.size = w1.heap.size + 1 + 1 by simp] at h
      have hsz := hb1.size
      have hb2 : Below w.heap.size w w2 := by
        rw [hw2]
        exact ((hb1.alloc hsz _).alloc (by simp; omega) _).alloc (by simp; omega) _
      generalize w1.heap.size = G at *
      clear hw2 hb1
      have HB := Lib.hid hb2
      have RA := Lib.hid ra
      have RB := Lib.hid rb
      have RC := Lib.hid rc
      clear hb2 ra rb rc
      refine (HN.out _ _ RA.out).mono ?_
      rintro e w3 ⟨rfl, ra3, f3⟩
      have RA3 := Lib.hid ra3
      have RB3 := Lib.hid (RB.out.fr f3 RB.out.lt (by simp))
      have RC3 := Lib.hid (RC.out.fr f3 RC.out.lt (by simp; omega))
      have HB3 := Lib.hid (HB.out.trans (f3.mono (B' := w.heap.size) (L' := []) HB.out.size (by simp; omega)).below)
      clear ra3 f3 RA RB RC HB
      go_wp2_with (go_at_call 48; refine (left_any _ _ _ RA3.out).mono ?_; rintro e w' ⟨rfl, rfl⟩)
      refine (HW.out _ _ RB3.out).mono ?_
      rintro e w4 ⟨rfl, rb4, f4⟩
      have RB4 := Lib.hid rb4
      have RC4 := Lib.hid (RC3.out.fr f4 RC3.out.lt (by simp))
      have HB4 := Lib.hid (HB3.out.trans (f4.mono (B' := w.heap.size) (L' := []) HB3.out.size (by simp; omega)).below)
      clear rb4 f4 RA3 RB3 RC3 HB3
      go_wp2_with (go_at_call 48; refine (left_any _ _ _ RB4.out).mono ?_; rintro e w' ⟨rfl, rfl⟩)
      refine (HT.out _ _ RC4.out).mono ?_
      rintro e w5 ⟨rfl, rc5, f5⟩
      have RC5 := Lib.hid rc5
      have HB5 := Lib.hid (HB4.out.trans (f5.mono (B' := w.heap.size) (L' := []) HB4.out.size (by simp; omega)).below)
      clear rc5 f5 RB4 RC4 HB4
      go_wp2_with (go_at_call 48; refine (left_any _ _ _ RC5.out).mono ?_; rintro e w' ⟨rfl, rfl⟩)
      go_ret
      exact ⟨by first | (simp; done) | (simp; omega), HB5.out⟩
  case neg =>
    obtain ⟨M, hM⟩ := Int.eq_ofNat_of_zero_le (show 0 ≤ numOf s by omega)
    have hM' : numOf s = (M : Int) := hM
    rw [hM'] at hg hn hb1 hb2 hW1 hW2 hT1 hT2 hT3 hN
    rw [Int.toNat_natCast] at hT3
    clear hM hM'
    have szM : M + 4 ≤ s.size → ((s.extract (4 + M) s.size).size : Int) = (s.size : Int) - 4 - (M : Int) := fun h => by rw [ByteArray.size_extract]; omega
    have key : (x2 < (M : Int) ∧ (M : Int) < x1) ∨ (x2 < (M : Int) ∧ ¬ (M : Int) < x1) ∨ (¬ x2 < (M : Int) ∧ (s.size : Int) - 4 < M ∧ (M : Int) < x1) ∨ (¬ x2 < (M : Int) ∧ (s.size : Int) - 4 < M ∧ ¬ (M : Int) < x1) ∨
        (¬ x2 < (M : Int) ∧ ¬ (s.size : Int) - 4 < M ∧ (M : Int) < x1) ∨ (¬ x2 < (M : Int) ∧ ¬ (s.size : Int) - 4 < M ∧ ¬ (M : Int) < x1) := by omega
    rcases key with ⟨c2, c1⟩ | ⟨c2, c1⟩ | ⟨c2, c3, c1⟩ | ⟨c2, c3, c1⟩ | ⟨c2, c3, c1⟩ | ⟨c2, c3, c1⟩
    all_goals
      (first | rw [hT1 (.inr c2)] at ht | rw [hT2 hN c2 c3] at ht | (rw [hT3 hN c2 c3] at ht; have szM' := szM (by omega)))
      (first | rw [hW1 (.inr c2)] at hw | rw [hW1 (.inl c1)] at hw | rw [hW2 c1 c2] at hw)
    all_goals
      clear hW1 hW2 hT1 hT2 hT3 szM
      have HG := Lib.hid hg
      have HN := Lib.hid hn
      have HW := Lib.hid hw
      have HT := Lib.hid ht
      clear hg hn hw ht
      go_enter Try.func12, Try.ntmps12
      go_wp2_with (go_at_call 15; refine (awake01 _).mono ?_; rintro e w1 ⟨rfl, hb1⟩)
      refine (HG.out _).mono ?_
      rintro e wg ⟨rfl, rfl⟩
      go_wp2_with fail
      refine (new_any _ _).mono ?_
      rintro e wg ⟨rfl, rfl⟩
      go_wp2_with fail
      refine (new_any _ _).mono ?_
      rintro e wg ⟨rfl, rfl⟩
      go_wp2_with fail
      refine (new_any _ _).mono ?_
      rintro e wg ⟨rfl, rfl⟩
      go_wp2_with fail
      obtain ⟨w2, hw2⟩ : ∃ w2, w2 = ((w1.alloc (.cells #[.string s] 108)).alloc (.cells #[.string s] 108)).alloc (.cells #[.string s] 108) := ⟨_, rfl⟩
      rw [← hw2]
      have ra : Rd w2 w1.heap.size s := by rw [hw2]; exact ((Blk.new _ _ _).alloc _).alloc _
      have rb : Rd w2 (w1.heap.size + 1) s := by
        rw [hw2]
        have h := (Blk.new (w1.alloc (.cells #[.string s] 108)) 108 #[.string s]).alloc (.cells #[.string s] 108)
        rwa [show (w1.alloc (.cells #[.string s] 108)).heap.size = w1.heap.size + 1 by simp] at h
      have rc : Rd w2 (w1.heap.size + 1 + 1) s := by
        rw [hw2]
        have h := Blk.new ((w1.alloc (.cells #[.string s] 108)).alloc (.cells #[.string s] 108)) 108 #[.string s]
        rwa [show ((w1.alloc (.cells #[.string s] 108)).alloc (.cells #[.string s] 108)).heap.size = w1.heap.size + 1 + 1 by simp] at h
      have hsz := hb1.size
      have hb2 : Below w.heap.size w w2 := by
        rw [hw2]
        exact ((hb1.alloc hsz _).alloc (by simp; omega) _).alloc (by simp; omega) _
      generalize w1.heap.size = G at *
      clear hw2 hb1
      have HB := Lib.hid hb2
      have RA := Lib.hid ra
      have RB := Lib.hid rb
      have RC := Lib.hid rc
      clear hb2 ra rb rc
      refine (HN.out _ _ RA.out).mono ?_
      rintro e w3 ⟨rfl, ra3, f3⟩
      have RA3 := Lib.hid ra3
      have RB3 := Lib.hid (RB.out.fr f3 RB.out.lt (by simp))
      have RC3 := Lib.hid (RC.out.fr f3 RC.out.lt (by simp; omega))
      have HB3 := Lib.hid (HB.out.trans (f3.mono (B' := w.heap.size) (L' := []) HB.out.size (by simp; omega)).below)
      clear ra3 f3 RA RB RC HB
      go_wp2_with (go_at_call 48; refine (left_any _ _ _ RA3.out).mono ?_; rintro e w' ⟨rfl, rfl⟩)
      refine (HW.out _ _ RB3.out).mono ?_
      rintro e w4 ⟨rfl, rb4, f4⟩
      have RB4 := Lib.hid rb4
      have RC4 := Lib.hid (RC3.out.fr f4 RC3.out.lt (by simp))
      have HB4 := Lib.hid (HB3.out.trans (f4.mono (B' := w.heap.size) (L' := []) HB3.out.size (by simp; omega)).below)
      clear rb4 f4 RA3 RB3 RC3 HB3
      go_wp2_with (go_at_call 48; refine (left_any _ _ _ RB4.out).mono ?_; rintro e w' ⟨rfl, rfl⟩)
      refine (HT.out _ _ RC4.out).mono ?_
      rintro e w5 ⟨rfl, rc5, f5⟩
      have RC5 := Lib.hid rc5
      have HB5 := Lib.hid (HB4.out.trans (f5.mono (B' := w.heap.size) (L' := []) HB4.out.size (by simp; omega)).below)
      clear rc5 f5 RB4 RC4 HB4
      go_wp2_with (go_at_call 48; refine (left_any _ _ _ RC5.out).mono ?_; rintro e w' ⟨rfl, rfl⟩)
      go_ret
      exact ⟨by first | (simp; done) | (simp; omega), HB5.out⟩
end Go.Proofs.Ytkmkdodhahcpdaa
