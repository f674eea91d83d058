/- The law CheckTrims: the walk. -/
import Derived.Test.YtndjgjnnoknblaaTrimB
import Derived.Laws.StructEq
namespace Go.Proofs.Ytndjgjnnoknblaa
open Go.RowKit Go.Fb
set_option maxRecDepth 100000 in
theorem ins_neq (a b : Int) (w : World) : (binOp .neq 49 (.agg #[.int .i64 a, .int .i64 b]) (.agg #[.int .i64 a, .int .i64 b])).run Try.prog w = .ok (.bool false) w := by
  have h : (Op.equalIn 10000 49 (.agg #[.int .i64 a, .int .i64 b]) (.agg #[.int .i64 a, .int .i64 b])).run Try.prog w = .ok true w := by
    rw [run_equalIn_struct w 9999 49 _ _ (by kernel_rfl) (by kernel_rfl)]
    simp [Program.fieldsOf, Try.underlying49, Op.eqFields, part, isAgg, run_underlying Try.underlying3, run_equalIn_int w 9998 3 .i64 .i64 _ _ Try.underlying3]
  simp [binOp, Op.equal, Op.maxDepth, h]
theorem neq_int (a : Int) : (a != a) = false := by simp
set_option maxRecDepth 100000 in
set_option maxHeartbeats 4000000 in
theorem walk_CheckTrims (A : Option Addr) (c : Nat) (l : List (Int × Int)) (hc : c ≤ maxLen) (hlc : l.length ≤ c) (w : World) (hr : Reads w w.heap.size 2 A l.length (cellsI l)) :
    Calls Try.prog 7 #[.slice A l.length c] w fun e w' => e = .returned (.bool true) ∧ Below w.heap.size w w' := by
  have hlm : l.length ≤ maxLen := Nat.le_trans hlc hc
  have hm := hlm
  unfold maxLen at hm
  have HR := Lib.hid hr
  have HLM := Lib.hid hlm
  have HTR := Lib.hid (fun (w' : World) (h : Reads w' w.heap.size 2 A l.length (cellsI l)) (hB : w.heap.size ≤ w'.heap.size) => trim_any A c w.heap.size l w' h hB hlm)
  obtain ⟨n, hnl⟩ : ∃ n, n = l.length := ⟨_, rfl⟩
  have HN := Lib.hid hnl
  rw [← hnl] at hm HTR ⊢
  clear hr hlm hlc hc hnl
  go_enter Try.func7, Try.ntmps7
  go_wp2_with fail
  refine (awake05 _).mono ?_
  rintro e w1 ⟨rfl, b1⟩
  have BL1 := Lib.hid b1
  clear b1
  by_cases h60 : n ≤ 60
  case neg =>
    go_wp2_with fail
    go_ret
    exact ⟨rfl, BL1.out⟩
  have hd60 : decide (60 < (n : Int)) = false := decide_eq_false (by omega)
  have HR1 := HR.out.below BL1.out
  rw [← HN.out] at HR1
  have HT1 := Lib.hid (HTR.out _ HR1 BL1.out.size)
  clear HR1
  go_wp2_with fail
  refine HT1.out.mono ?_
  rintro e w2 ⟨o1, o2, f2⟩
  have BL2 := Lib.hid (BL1.out.trans (f2.below.mono BL1.out.size))
  have HR2 := HR.out.below BL2.out
  have O1 := Lib.hid o1
  have O2 := Lib.hid o2
  clear f2 HT1 o1 o2
  rcases (show chkL l = none ∨ ∃ s, chkL l = some s by cases chkL l; exact .inl rfl; exact .inr ⟨_, rfl⟩) with hck | ⟨s, hck⟩
  · obtain rfl := O2.out hck
    have HC := Lib.hid (check_no (c := c) HR2 BL2.out.size HLM.out hck)
    rw [← HN.out] at HC
    clear HR2 hck O1 O2
    go_wp2_with fail
    refine HC.out.mono ?_
    rintro e w3 ⟨rfl, f3⟩
    have BL3 := Lib.hid (BL2.out.trans (f3.below.mono BL2.out.size))
    clear f3
    go_wp2_with fail
    go_ret
    exact ⟨rfl, BL3.out.alloc BL3.out.size _⟩
  · obtain ⟨S, A', c', hS, rfl, hrq⟩ := O1.out s hck
    obtain ⟨s', hq, hem, hu0, hu1, hle, hD, hag⟩ := trim_list hck hS
    have HC := Lib.hid (check_yes (c := c) HR2 BL2.out.size HLM.out hck)
    rw [← HN.out] at HC
    obtain ⟨q, hqe⟩ : ∃ q, q = trimL l.length S (pF l) l.length := ⟨_, rfl⟩
    rw [← hqe] at hrq hq hle hD hag ⊢
    rw [← HN.out] at hle
    clear hqe
    have HCQ := Lib.hid (fun (w' : World) (B : Nat) (h : Reads w' B 2 A' q.length (cellsI q)) (hB : B ≤ w'.heap.size) => check_yes (c := c') h hB (by unfold maxLen; omega) hq)
    have HTQ := Lib.hid (fun (w' : World) (B : Nat) (h : Reads w' B 2 A' q.length (cellsI q)) (hB : B ≤ w'.heap.size) => trim_any A' c' B q w' h hB (by unfold maxLen; omega))
    have HQ := Lib.hid hq
    have HAG := Lib.hid hag
    have HDD := Lib.hid hD
    have HRQ := Lib.hid hrq
    obtain ⟨m, hm2⟩ : ∃ m, m = q.length := ⟨_, rfl⟩
    have HM := Lib.hid hm2
    rw [← hm2] at HCQ HTQ HDD HRQ hle ⊢
    have hrep : ∀ g, repV g m s' = #[.slice (some ⟨g, 0, none⟩) m m, .int .i64 s'.mx, .int .i64 s.em, .bool s.u0, .bool s.u1] := by
      intro g; show #[_, _, _, _, _] = _; rw [hem, hu0, hu1]
    have HREP := Lib.hid hrep
    clear HR2 hck hS hq hem hu0 hu1 hD hag hrq hm2 hrep O1 O2
    go_wp2_with fail
    refine HC.out.mono ?_
    rintro e w3 ⟨gd, rfl, hgd, bd, f3⟩
    have BL3 := Lib.hid ((BL2.out.trans (f3.below.mono BL2.out.size)).alloc (by have := BL2.out.size; have := f3.size; omega) (.cells (repV gd n s) 53))
    have BR := Lib.hid (Blk.new w3 53 (repV gd n s))
    have HRQ3 := Lib.hid (HRQ.out.fr (f3.trans ((Fr.refl _ _ _).alloc f3.size (.cells (repV gd n s) 53))) (Nat.le_refl _) (by simp))
    have hB3 : w2.heap.size ≤ (w3.alloc (.cells (repV gd n s) 53)).heap.size := by have := f3.size; simp; omega
    have HC3 := Lib.hid (HCQ.out _ _ HRQ3.out hB3)
    clear f3 bd HC HCQ hgd
    go_wp2_with fail
    refine HC3.out.mono ?_
    rintro e w4 ⟨ge, rfl, hge, be, f4⟩
    rw [HREP.out]
    have hlt := be.lt
    have f5 := f4.alloc f4.size (.cells #[.slice (some ⟨ge, 0, none⟩) m m, .int .i64 s'.mx, .int .i64 s.em, .bool s.u0, .bool s.u1] 53)
    have BQ := Lib.hid (Blk.new w4 53 #[.slice (some ⟨ge, 0, none⟩) m m, .int .i64 s'.mx, .int .i64 s.em, .bool s.u0, .bool s.u1])
    have BE := Lib.hid (be.alloc (.cells #[.slice (some ⟨ge, 0, none⟩) m m, .int .i64 s'.mx, .int .i64 s.em, .bool s.u0, .bool s.u1] 53))
    have BR5 := Lib.hid (BR.out.fr f5 BR.out.lt (by simp))
    have BL5 := Lib.hid (BL3.out.trans (f5.below.mono BL3.out.size))
    have HRQ5 := Lib.hid (HRQ3.out.fr f5 hB3 (by simp))
    have hB5 : w2.heap.size ≤ (w4.alloc (.cells #[.slice (some ⟨ge, 0, none⟩) m m, .int .i64 s'.mx, .int .i64 s.em, .bool s.u0, .bool s.u1] 53)).heap.size := Nat.le_trans hB3 f5.size
    have HT5 := Lib.hid (HTQ.out _ _ HRQ5.out hB5)
    have h34 := f5.size
    simp at h34
    clear f4 f5 be HC3 BR BL3 HRQ3 HTQ hge hB3
    go_wp2_with fail
    refine HT5.out.mono ?_
    rintro e w6 ⟨o1, _, f6⟩
    obtain ⟨S', A2, c2, hS', rfl, hr2⟩ := o1 s' HQ.out
    rw [HAG.out S' hS'] at hr2 ⊢
    rw [← HM.out] at hr2 ⊢
    have BQ6 := Lib.hid (BQ.out.fr f6 BQ.out.lt (by simp))
    have BE6 := Lib.hid (BE.out.fr f6 BE.out.lt (by simp))
    have BR6 := Lib.hid (BR5.out.fr f6 BR5.out.lt (by simp))
    have BL6 := Lib.hid (BL5.out.trans (f6.below.mono BL5.out.size))
    have HRQ6 := Lib.hid (HRQ5.out.fr f6 hB5 (by simp))
    have HR26 := Lib.hid hr2
    have hl6 := BQ6.out.lt
    have hl6' := BR6.out.lt
    have hl6e := BE6.out.lt
    clear o1 hS' f6 hr2 HT5 BQ BE BR5 BL5 HRQ5 hB5
    have r2 := BR6.out.cell 2
    have r3 := BR6.out.cell 3
    have r4 := BR6.out.cell 4
    have q0 := BQ6.out.cell 0
    have q2 := BQ6.out.cell 2
    have q3 := BQ6.out.cell 3
    have q4 := BQ6.out.cell 4
    simp at r2 r3 r4 q0 q2 q3 q4
    have huq := uses_neq s.u0 s.u1
    have hd1 : decide ((n : Int) < (m : Int)) = false := decide_eq_false (by omega)
    have hneq := ins_neq
    go_wp2_with fail
    go_loopw [88] (fun i wr => ∃ j p : Nat, j ≤ m ∧ i = .int .i64 j ∧ wr = w6.drewN p) (fun i _ => m - (intOf i).toNat)
    case atStart => exact ⟨0, 0, by omega, rfl, rfl⟩
    case round =>
      obtain ⟨j, p, hj, rfl, rfl⟩ := hrel
      by_cases hjm : j < m
      · have hji : (j : Int) < (m : Int) := by omega
        have x2 := (BE6.out.cell j).trans (intsA_get _ hjm)
        have hx : q[j]? = some (pF q j) := by rw [pF, List.getD_eq_getElem?_getD, List.getElem?_eq_getElem (by rw [← HM.out]; exact hjm)]; rfl
        obtain ⟨b1, f1, rfl, hb1, y0, y1⟩ := reads_ins (by rw [← HM.out]; exact HRQ6.out) hx
        obtain ⟨b2, f2, rfl, hb2, y2, y3⟩ := reads_ins (by rw [← HM.out]; exact HR26.out) hx
        have hdj := HDD.out j hjm
        have hdn : decide (s'.D j < 0) = false := decide_eq_false (by omega)
        clear hx
        go_wp2_with fail
        go_quiet (fail)
        go_wp2_with fail
        go_roundw
        case rel => exact ⟨j + 1, p + nq, by omega, by go_num, by first | rfl | rw [World.drewN_drewN]⟩
        case measure => simp [intOf]; omega
      · obtain rfl : m = j := by omega
        go_wp2_with fail
        go_ret
        exact ⟨rfl, BL6.out.drewN p⟩
end Go.Proofs.Ytndjgjnnoknblaa
