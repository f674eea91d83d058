/- Texts merged into one, for the number of files a claim may have: LnB. -/
import Derived.Test.YtfakgidimekikaaGreatMLnA
namespace Go.Proofs.YtfakgidimekikaaGreat
open Go.RowKit Go.Fb
def SomeIdxN (b : Bool) (w : World) (e : Ending) (w' : World) : Prop := ∃ i : Int, e = .returned (.int .i64 i) ∧ (decide (0 ≤ i) = b) ∧ Fr w.heap.size [] w w'
theorem allN_take_succ {f : (Nat → Int) → Bool} {l : List (Nat → Int)} {k : Nat} {x : Nat → Int} (h : l[k]? = some x) : (l.take (k + 1)).all f = ((l.take k).all f && f x) := by
  rw [List.take_add_one, h, List.all_append]
  simp
theorem allN_bad {f : (Nat → Int) → Bool} {l : List (Nat → Int)} {k : Nat} {x : Nat → Int} (h : l[k]? = some x) (hf : f x = false) : l.all f = false := by
  rw [List.all_eq_false]
  exact ⟨x, List.mem_of_getElem? h, by simp [hf]⟩
theorem lowns_empty (w : World) : (w.alloc (.cells #[] 26)).ownsRow w.heap.size 26 5 (.slice (some ⟨w.heap.size, 0, none⟩) 0 0) 0 [] := by
  refine ⟨rfl, .inr ⟨w.heap.size, 0, #[], rfl, Nat.le_refl _, Blk.new _ _ _, ?_⟩⟩
  simp
theorem lines_nil (A : Option Addr) (n c : Nat) (w : World) : (binOp .eql 22 (.slice A n c) (.slice none 0 0)).run Tryz.prog w = .ok (.bool A.isNone) w := by
  simp only [binOp]
  simp [run_equal_slice_nil w _ _ A n c Tryz.underlying22]
set_option maxRecDepth 100000 in
theorem line_one_eq (a b k re im : Int) (w : World) : (Op.equalIn 10000 26 (.agg #[.int .i64 a, .int .i64 b, .int .i64 k, .int .i64 re, .int .i64 im]) (.agg #[.int .i64 a, .int .i64 b, .int .i64 k, .int .i64 re, .int .i64 im])).run Tryz.prog w = .ok true w := by
  rw [run_equalIn_struct w 9999 26 _ _ (by kernel_rfl) (by kernel_rfl)]
  have hsO : ∀ w, (sizeOf 24).run Tryz.prog w = .ok 2 w := fun w => by kernel_rfl
  have p0 : ∀ w, (part 3 #[.int .i64 a, .int .i64 b, .int .i64 k, .int .i64 re, .int .i64 im] 0).run Tryz.prog w = .ok (.int .i64 a) w := fun w => by
    simp [part, isAgg, run_underlying Tryz.underlying3]
  have p1 : ∀ w, (part 3 #[.int .i64 a, .int .i64 b, .int .i64 k, .int .i64 re, .int .i64 im] 1).run Tryz.prog w = .ok (.int .i64 b) w := fun w => by
    simp [part, isAgg, run_underlying Tryz.underlying3]
  have p2 : ∀ w, (part 3 #[.int .i64 a, .int .i64 b, .int .i64 k, .int .i64 re, .int .i64 im] 2).run Tryz.prog w = .ok (.int .i64 k) w := fun w => by
    simp [part, isAgg, run_underlying Tryz.underlying3]
  have p3 : ∀ w, (part 24 #[.int .i64 a, .int .i64 b, .int .i64 k, .int .i64 re, .int .i64 im] 3).run Tryz.prog w = .ok (.agg #[.int .i64 re, .int .i64 im]) w := fun w => by
    simp [part, isAgg, run_underlying Tryz.underlying24, hsO]
  have e0 := run_equalIn_int w 9998 3 .i64 .i64 a a Tryz.underlying3
  have e1 := run_equalIn_int w 9998 3 .i64 .i64 b b Tryz.underlying3
  have e2 := run_equalIn_int w 9998 3 .i64 .i64 k k Tryz.underlying3
  have e3 : (Op.equalIn 9999 24 (.agg #[.int .i64 re, .int .i64 im]) (.agg #[.int .i64 re, .int .i64 im])).run Tryz.prog w = .ok true w := by
    rw [run_equalIn_struct w 9998 24 _ _ (by kernel_rfl) (by kernel_rfl)]
    simp [Program.fieldsOf, Tryz.underlying24]
    simp [Op.eqFields, part, isAgg, run_underlying Tryz.underlying3, run_equalIn_int w 9997 3 .i64 .i64 _ _ Tryz.underlying3]
  simp [Program.fieldsOf, Tryz.underlying26, Op.eqFields, p0, p1, p2, p3, e0, e1, e2, e3]
theorem line_one_neq (a b k re im : Int) (w : World) : (binOp .neq 26 (.agg #[.int .i64 a, .int .i64 b, .int .i64 k, .int .i64 re, .int .i64 im]) (.agg #[.int .i64 a, .int .i64 b, .int .i64 k, .int .i64 re, .int .i64 im])).run Tryz.prog w = .ok (.bool false) w := by
  simp [binOp, Op.equal, Op.maxDepth, line_one_eq]
set_option maxRecDepth 100000 in
theorem lines_yes {B1 B2 : Nat} {A1 A2 : Option Addr} {c1 c2 n : Nat} {l : List (Nat → Int)} {w : World} (hn : n = l.length) (h1 : Reads w B1 5 A1 n (cellsLn l)) (h2 : Reads w B2 5 A2 n (cellsLn l)) (_hl : n ≤ 1000000) :
    Calls Tryz.prog 46 #[.slice A1 n c1, .slice A2 n c2] w fun e w' => e = .returned (.bool true) ∧ Fr w.heap.size [] w w' := by
  have H1 := Lib.hid h1
  have H2 := Lib.hid h2
  have HX := Lib.hid (fun (k : Nat) (hk : k < l.length) => (⟨l[k], List.getElem?_eq_getElem hk⟩ : ∃ x, l[k]? = some x))
  have HN := Lib.hid hn
  clear h1 h2 hn
  go_enter Tryz.func46, Tryz.ntmps46
  go_wp2_with fail
  go_loopw [5] (fun i wr => ∃ (k m : Nat), k ≤ n ∧ i = .int .i64 k ∧ wr = w.drewN m) (fun i _ => n - (intOf i).toNat)
  case atStart => exact ⟨0, 0, by omega, rfl, rfl⟩
  case round =>
    obtain ⟨k, m, hk, rfl, rfl⟩ := hrel
    by_cases hkn : k < n
    · obtain ⟨x, hx⟩ := HX.out k (by rw [← HN.out]; exact hkn)
      obtain ⟨b1, o1, rfl, hb1, hc1⟩ := reads_ln (by rw [← HN.out]; exact H1.out) hx
      obtain ⟨b2, o2, rfl, hb2, hc2⟩ := reads_ln (by rw [← HN.out]; exact H2.out) hx
      have p0 := hc1 0 (by omega)
      have p1 := hc1 1 (by omega)
      have p2 := hc1 2 (by omega)
      have p3 := hc1 3 (by omega)
      have p4 := hc1 4 (by omega)
      have q0 := hc2 0 (by omega)
      have q1 := hc2 1 (by omega)
      have q2 := hc2 2 (by omega)
      have q3 := hc2 3 (by omega)
      have q4 := hc2 4 (by omega)
      simp only [Nat.add_zero, ← Nat.add_assoc] at p0 p1 p2 p3 p4 q0 q1 q2 q3 q4
      have hki : (k : Int) < (n : Int) := by omega
      have hnq := fun w => line_one_neq (x 0) (x 1) (x 2) (x 3) (x 4) w
      clear hc1 hc2 hx
      go_wp2_with fail
      go_quiet (fail)
      go_wp2_with fail
      go_roundw
      case rel => exact ⟨k + 1, _, by omega, by go_num, rfl⟩
      case measure => simp [intOf]; omega
    · obtain rfl : k = n := by omega
      go_wp2_with fail
      go_ret
      exact ⟨rfl, (Fr.refl _ _ _).drewN _⟩
end Go.Proofs.YtfakgidimekikaaGreat
