/- forebaylaw19.AlignItems. -/
import Derived.Test.YtkmpcddhbdndkaaItemF
import Derived.Test.YtkmpcddhbdndkaaAlignC
namespace Go.Proofs.Ytkmpcddhbdndkaa
open Go.RowKit Go.Fb
theorem put_len {b : Bool} {k re im ep : Int} {p : Bool} {l : List Int} (h : putI b k re im ep p = some l) : l.length ≤ 1000 := by
  unfold putI at h
  split at h <;> split at h <;> simp at h <;> subst h <;> simp [be_length]
set_option maxRecDepth 100000 in
theorem rec_eq (k re im : Int) (w : World) : (Op.equalIn 10000 59 (.agg #[.int .i64 k, .int .i64 re, .int .i64 im]) (.agg #[.int .i64 k, .int .i64 re, .int .i64 im])).run Try.prog w = .ok true w := by
  rw [run_equalIn_struct w 9999 59 _ _ (by kernel_rfl) (by kernel_rfl)]
  have hsO : ∀ w, (sizeOf 31).run Try.prog w = .ok 2 w := fun w => by kernel_rfl
  have p0 : ∀ w, (part 3 #[.int .i64 k, .int .i64 re, .int .i64 im] 0).run Try.prog w = .ok (.int .i64 k) w := fun w => by
    simp [part, isAgg, run_underlying Try.underlying3]
  have p1 : ∀ w, (part 31 #[.int .i64 k, .int .i64 re, .int .i64 im] 1).run Try.prog w = .ok (.agg #[.int .i64 re, .int .i64 im]) w := fun w => by
    simp [part, isAgg, run_underlying Try.underlying31, hsO]
  have e0 := run_equalIn_int w 9998 3 .i64 .i64 k k Try.underlying3
  have e1 : (Op.equalIn 9999 31 (.agg #[.int .i64 re, .int .i64 im]) (.agg #[.int .i64 re, .int .i64 im])).run Try.prog w = .ok true w := by
    rw [run_equalIn_struct w 9998 31 _ _ (by kernel_rfl) (by kernel_rfl)]
    simp [Program.fieldsOf, Try.underlying31]
    simp [Op.eqFields, part, isAgg, run_underlying Try.underlying3, run_equalIn_int w 9997 3 .i64 .i64 _ _ Try.underlying3]
  simp [Program.fieldsOf, Try.underlying59, Op.eqFields, p0, p1, e0, e1]
theorem rec_neq (k re im : Int) (w : World) : (binOp .neq 59 (.agg #[.int .i64 k, .int .i64 re, .int .i64 im]) (.agg #[.int .i64 k, .int .i64 re, .int .i64 im])).run Try.prog w = .ok (.bool false) w := by
  simp [binOp, Op.equal, Op.maxDepth, rec_eq]
set_option maxRecDepth 100000 in
set_option maxHeartbeats 1000000 in
theorem walk_AlignItems (b : Bool) (k re im ep : Int) (p : Bool) (s : ByteArray) (w : World) :
    Calls Try.prog 6 #[.agg (It b k re im ep p), .string s] w fun e w' => e = .returned (.bool true) ∧ Below w.heap.size w w' := by
  have HA := Lib.hid awake19
  obtain ⟨o, ho⟩ : ∃ o, o = Itm.put ⟨b, k, re, im, ep, p⟩ := ⟨_, rfl⟩
  have hp1 := fun w => aput_any b k re im ep p w
  have hp2 := fun w => rput_any b k re im ep p w
  rw [← Itm.put_mk, ← ho] at hp1 hp2
  have HP1 := Lib.hid hp1
  have HP2 := Lib.hid hp2
  have HO := Lib.hid ho
  clear hp1 hp2 ho
  by_cases hl : 100 < s.size
  · go_enter Try.func6, Try.ntmps6
    go_wp2_with fail
    have F0 := Lib.hid ((Fr.refl w.heap.size [] w).alloc (Nat.le_refl _) (.cells (It b k re im ep p) 70))
    generalize w.alloc _ = w0 at *
    refine (HA.out _).mono ?_
    rintro e w1 ⟨rfl, f1⟩
    have F1 := Lib.hid (F0.out.trans (f1.mono F0.out.size (by simp)))
    clear f1
    go_wp2_with fail
    go_ret
    exact ⟨rfl, F1.out.below⟩
  go_enter Try.func6, Try.ntmps6
  go_wp2_with fail
  have B0 := Lib.hid (Blk.new w 70 (It b k re im ep p))
  have F0 := Lib.hid ((Fr.refl w.heap.size [] w).alloc (Nat.le_refl _) (.cells (It b k re im ep p) 70))
  generalize w.alloc _ = w0 at *
  refine (HA.out _).mono ?_
  rintro e w1 ⟨rfl, f1⟩
  have B1 := Lib.hid (B0.out.fr f1 B0.out.lt (by simp))
  have F1 := Lib.hid (F0.out.trans (f1.mono F0.out.size (by simp)))
  clear f1
  obtain ⟨c0, c1, c2, c3, c4, c5⟩ := it_cells B1.out
  go_wp2_with fail
  clear c0 c1 c2 c3 c4 c5
  refine (HP1.out _).mono ?_
  rintro e w2 ⟨rfl, f2⟩
  have B2 := Lib.hid (B1.out.fr f2 B1.out.lt (by simp))
  have F2 := Lib.hid (F1.out.trans (f2.mono F1.out.size (by simp)))
  clear f2
  obtain ⟨c0, c1, c2, c3, c4, c5⟩ := it_cells B2.out
  rcases o with _ | l
  case' some =>
    go_wp2_with fail
    clear c0 c1 c2 c3 c4 c5
    refine (HP2.out _).mono ?_
    rintro e w3 ⟨rfl, f3⟩
    have B3 := Lib.hid (B2.out.fr f3 B2.out.lt (by simp))
    have F3 := Lib.hid (F2.out.trans (f3.mono F2.out.size (by simp)))
    clear f3
    obtain ⟨c0, c1, c2, c3, c4, c5⟩ := it_cells B3.out
    go_wp2_with fail
    obtain ⟨t, ht⟩ : ∃ t, t = strOfNums l := ⟨_, rfl⟩
    have hback := put_back HO.out.symm
    rw [← ht] at hback
    have hput : putS (some l) = t := ht.symm
    rw [hput]
    have HBK := Lib.hid hback
    have htz : t.size ≤ 1000 := by rw [ht, strOfNums_size]; exact put_len HO.out.symm
    clear hback ht hput
    refine (aget_any t _ htz).mono ?_
    rintro e w4 ⟨rfl, f4⟩
    have B4 := Lib.hid (B3.out.fr f4 B3.out.lt (by simp))
    have F4 := Lib.hid (F3.out.trans (f4.mono F3.out.size (by simp)))
    rw [HBK.out.2]
    have hgi : getI t = (Itm.mk b k re im ep p).back := by unfold getI; rw [if_pos HBK.out.2, HBK.out.1]
    obtain ⟨c0, c1, c2, c3, c4, c5⟩ := it_cells B4.out
    clear f4
    have hltw := B4.out.lt
    have hnq := fun w => rec_neq k re im w
    cases b
    · replace hgi : getI t = (⟨false, k, re, im, 0, false⟩ : Itm) := hgi
      rw [hgi]
      clear hgi
      have by5 := Blk.new w4 70 ((⟨false, k, re, im, 0, false⟩ : Itm)).cs
      have f5 := (Fr.refl w4.heap.size [] w4).alloc (Nat.le_refl _) (.cells ((⟨false, k, re, im, 0, false⟩ : Itm)).cs 70)
      have B5 := Lib.hid (B4.out.fr f5 B4.out.lt (by simp))
      have FX := Lib.hid (F4.out.trans (f5.mono F4.out.size (by simp)))
      go_wp2_with fail
      clear by5 f5 c0 c1 c2 c3 c4 c5 hltw hnq
      generalize w4.alloc _ = wx at *
      refine (aget_any s _ (by omega)).mono ?_
      rintro e w6 ⟨rfl, f6⟩
      have F6 := Lib.hid (FX.out.trans (f6.mono FX.out.size (by simp)))
      clear f6
      rcases Bool.eq_false_or_eq_true (goodI s) with hg | hg
      · have hgi : getI s = candI s := by unfold getI; rw [if_pos hg]
        have hpc := (goodI_iff s).1 hg
        have hsz : putS (some (bl s)) = s := by show strOfNums (bl s) = s; exact bl_inj (bl_strOfNums (bl_range s))
        rw [hgi, hg]
        have HGG := Lib.hid hg
        generalize candI s = y at *
        obtain ⟨yb, yk, yre, yim, yep, yp⟩ := y
        rw [Itm.put_mk] at hpc
        have HPC := Lib.hid hpc
        have HSZ := Lib.hid hsz
        clear hg hgi hpc hsz
        have RA := Lib.hid (rright_any s)
        go_wp2_with fail
        have by7 := Blk.new w6 70 (It yb yk yre yim yep yp)
        have F7 := Lib.hid (F6.out.alloc F6.out.size (.cells (It yb yk yre yim yep yp) 70))
        generalize w6.alloc _ = w7 at *
        refine (RA.out _ (by omega)).mono ?_
        rintro e w8 ⟨rfl, f8⟩
        rw [HGG.out]
        have BY8 := Lib.hid (by7.fr f8 by7.lt (by simp))
        have F8 := Lib.hid (F7.out.trans (f8.mono F7.out.size (by simp)))
        clear by7 f8
        obtain ⟨d0, d1, d2, d3, d4, d5⟩ := it_cells BY8.out
        go_wp2_with fail
        have hpp := rput_any yb yk yre yim yep yp w8
        rw [HPC.out] at hpp
        refine hpp.mono ?_
        rintro e w9 ⟨rfl, f9⟩
        rw [HSZ.out]
        have F9 := Lib.hid (F8.out.trans (f9.mono F8.out.size (by simp)))
        clear f9 hpp d0 d1 d2 d3 d4 d5
        go_wp2_with fail
        go_ret
        exact ⟨rfl, F9.out.below⟩
      · have hgi : getI s = (⟨false, 0, 0, 0, 0, false⟩ : Itm) := by unfold getI; rw [if_neg (by rw [hg]; simp)]; rfl
        rw [hgi, hg]
        have HGG := Lib.hid hg
        clear hg hgi
        have RA := Lib.hid (rright_any s)
        go_wp2_with fail
        have by7 := Blk.new w6 70 It0
        have F7 := Lib.hid (F6.out.alloc F6.out.size (.cells It0 70))
        generalize w6.alloc _ = w7 at *
        refine (RA.out _ (by omega)).mono ?_
        rintro e w8 ⟨rfl, f8⟩
        rw [HGG.out]
        have BY8 := Lib.hid (by7.fr f8 by7.lt (by simp))
        have F8 := Lib.hid (F7.out.trans (f8.mono F7.out.size (by simp)))
        clear by7 f8
        obtain ⟨d0, d1, d2, d3, d4, d5⟩ := it_cells BY8.out
        go_wp2_with fail
        go_ret
        exact ⟨rfl, F8.out.below⟩
    · replace hgi : getI t = (⟨true, 0, 0, 0, ep, p⟩ : Itm) := hgi
      rw [hgi]
      clear hgi
      have by5 := Blk.new w4 70 ((⟨true, 0, 0, 0, ep, p⟩ : Itm)).cs
      have f5 := (Fr.refl w4.heap.size [] w4).alloc (Nat.le_refl _) (.cells ((⟨true, 0, 0, 0, ep, p⟩ : Itm)).cs 70)
      have B5 := Lib.hid (B4.out.fr f5 B4.out.lt (by simp))
      have FX := Lib.hid (F4.out.trans (f5.mono F4.out.size (by simp)))
      go_wp2_with fail
      clear by5 f5 c0 c1 c2 c3 c4 c5 hltw hnq
      generalize w4.alloc _ = wx at *
      refine (aget_any s _ (by omega)).mono ?_
      rintro e w6 ⟨rfl, f6⟩
      have F6 := Lib.hid (FX.out.trans (f6.mono FX.out.size (by simp)))
      clear f6
      rcases Bool.eq_false_or_eq_true (goodI s) with hg | hg
      · have hgi : getI s = candI s := by unfold getI; rw [if_pos hg]
        have hpc := (goodI_iff s).1 hg
        have hsz : putS (some (bl s)) = s := by show strOfNums (bl s) = s; exact bl_inj (bl_strOfNums (bl_range s))
        rw [hgi, hg]
        have HGG := Lib.hid hg
        generalize candI s = y at *
        obtain ⟨yb, yk, yre, yim, yep, yp⟩ := y
        rw [Itm.put_mk] at hpc
        have HPC := Lib.hid hpc
        have HSZ := Lib.hid hsz
        clear hg hgi hpc hsz
        have RA := Lib.hid (rright_any s)
        go_wp2_with fail
        have by7 := Blk.new w6 70 (It yb yk yre yim yep yp)
        have F7 := Lib.hid (F6.out.alloc F6.out.size (.cells (It yb yk yre yim yep yp) 70))
        generalize w6.alloc _ = w7 at *
        refine (RA.out _ (by omega)).mono ?_
        rintro e w8 ⟨rfl, f8⟩
        rw [HGG.out]
        have BY8 := Lib.hid (by7.fr f8 by7.lt (by simp))
        have F8 := Lib.hid (F7.out.trans (f8.mono F7.out.size (by simp)))
        clear by7 f8
        obtain ⟨d0, d1, d2, d3, d4, d5⟩ := it_cells BY8.out
        go_wp2_with fail
        have hpp := rput_any yb yk yre yim yep yp w8
        rw [HPC.out] at hpp
        refine hpp.mono ?_
        rintro e w9 ⟨rfl, f9⟩
        rw [HSZ.out]
        have F9 := Lib.hid (F8.out.trans (f9.mono F8.out.size (by simp)))
        clear f9 hpp d0 d1 d2 d3 d4 d5
        go_wp2_with fail
        go_ret
        exact ⟨rfl, F9.out.below⟩
      · have hgi : getI s = (⟨false, 0, 0, 0, 0, false⟩ : Itm) := by unfold getI; rw [if_neg (by rw [hg]; simp)]; rfl
        rw [hgi, hg]
        have HGG := Lib.hid hg
        clear hg hgi
        have RA := Lib.hid (rright_any s)
        go_wp2_with fail
        have by7 := Blk.new w6 70 It0
        have F7 := Lib.hid (F6.out.alloc F6.out.size (.cells It0 70))
        generalize w6.alloc _ = w7 at *
        refine (RA.out _ (by omega)).mono ?_
        rintro e w8 ⟨rfl, f8⟩
        rw [HGG.out]
        have BY8 := Lib.hid (by7.fr f8 by7.lt (by simp))
        have F8 := Lib.hid (F7.out.trans (f8.mono F7.out.size (by simp)))
        clear by7 f8
        obtain ⟨d0, d1, d2, d3, d4, d5⟩ := it_cells BY8.out
        go_wp2_with fail
        go_ret
        exact ⟨rfl, F8.out.below⟩
  case' none =>
    go_wp2_with fail
    clear c0 c1 c2 c3 c4 c5
    refine (HP2.out _).mono ?_
    rintro e w3 ⟨rfl, f3⟩
    have B3 := Lib.hid (B2.out.fr f3 B2.out.lt (by simp))
    have F3 := Lib.hid (F2.out.trans (f3.mono F2.out.size (by simp)))
    clear f3
    obtain ⟨c0, c1, c2, c3, c4, c5⟩ := it_cells B3.out
    go_wp2_with fail
    have FX := Lib.hid F3.out
    clear c0 c1 c2 c3 c4 c5
    refine (aget_any s _ (by omega)).mono ?_
    rintro e w6 ⟨rfl, f6⟩
    have F6 := Lib.hid (FX.out.trans (f6.mono FX.out.size (by simp)))
    clear f6
    rcases Bool.eq_false_or_eq_true (goodI s) with hg | hg
    · have hgi : getI s = candI s := by unfold getI; rw [if_pos hg]
      have hpc := (goodI_iff s).1 hg
      have hsz : putS (some (bl s)) = s := by show strOfNums (bl s) = s; exact bl_inj (bl_strOfNums (bl_range s))
      rw [hgi, hg]
      have HGG := Lib.hid hg
      generalize candI s = y at *
      obtain ⟨yb, yk, yre, yim, yep, yp⟩ := y
      rw [Itm.put_mk] at hpc
      have HPC := Lib.hid hpc
      have HSZ := Lib.hid hsz
      clear hg hgi hpc hsz
      have RA := Lib.hid (rright_any s)
      go_wp2_with fail
      have by7 := Blk.new w6 70 (It yb yk yre yim yep yp)
      have F7 := Lib.hid (F6.out.alloc F6.out.size (.cells (It yb yk yre yim yep yp) 70))
      generalize w6.alloc _ = w7 at *
      refine (RA.out _ (by omega)).mono ?_
      rintro e w8 ⟨rfl, f8⟩
      rw [HGG.out]
      have BY8 := Lib.hid (by7.fr f8 by7.lt (by simp))
      have F8 := Lib.hid (F7.out.trans (f8.mono F7.out.size (by simp)))
      clear by7 f8
      obtain ⟨d0, d1, d2, d3, d4, d5⟩ := it_cells BY8.out
      go_wp2_with fail
      have hpp := rput_any yb yk yre yim yep yp w8
      rw [HPC.out] at hpp
      refine hpp.mono ?_
      rintro e w9 ⟨rfl, f9⟩
      rw [HSZ.out]
      have F9 := Lib.hid (F8.out.trans (f9.mono F8.out.size (by simp)))
      clear f9 hpp d0 d1 d2 d3 d4 d5
      go_wp2_with fail
      go_ret
      exact ⟨rfl, F9.out.below⟩
    · have hgi : getI s = (⟨false, 0, 0, 0, 0, false⟩ : Itm) := by unfold getI; rw [if_neg (by rw [hg]; simp)]; rfl
      rw [hgi, hg]
      have HGG := Lib.hid hg
      clear hg hgi
      have RA := Lib.hid (rright_any s)
      go_wp2_with fail
      have by7 := Blk.new w6 70 It0
      have F7 := Lib.hid (F6.out.alloc F6.out.size (.cells It0 70))
      generalize w6.alloc _ = w7 at *
      refine (RA.out _ (by omega)).mono ?_
      rintro e w8 ⟨rfl, f8⟩
      rw [HGG.out]
      have BY8 := Lib.hid (by7.fr f8 by7.lt (by simp))
      have F8 := Lib.hid (F7.out.trans (f8.mono F7.out.size (by simp)))
      clear by7 f8
      obtain ⟨d0, d1, d2, d3, d4, d5⟩ := it_cells BY8.out
      go_wp2_with fail
      go_ret
      exact ⟨rfl, F8.out.below⟩
end Go.Proofs.Ytkmpcddhbdndkaa
