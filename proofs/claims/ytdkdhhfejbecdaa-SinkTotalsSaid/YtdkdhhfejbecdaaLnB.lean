/- Lists of lines: does any not fit; cloned; compared. -/
import Derived.Test.YtdkdhhfejbecdaaLnA
namespace Go.Proofs.Ytdkdhhfejbecdaa
open Go.RowKit Go.Fb
def SomeIdxN (b : Bool) (w : World) (e : Ending) (w' : World) : Prop := ∃ i : Int, e = .returned (.int .i64 i) ∧ (decide (0 ≤ i) = b) ∧ Fr w.heap.size [] w w'
theorem allN_take_succ {f : (Nat → Int) → Bool} {l : List (Nat → Int)} {k : Nat} {x : Nat → Int} (h : l[k]? = some x) : (l.take (k + 1)).all f = ((l.take k).all f && f x) := by
  rw [List.take_add_one, h, List.all_append]
  simp
theorem allN_bad {f : (Nat → Int) → Bool} {l : List (Nat → Int)} {k : Nat} {x : Nat → Int} (h : l[k]? = some x) (hf : f x = false) : l.all f = false := by
  rw [List.all_eq_false]
  exact ⟨x, List.mem_of_getElem? h, by simp [hf]⟩
set_option maxRecDepth 100000 in
theorem lindex_any (A : Option Addr) (c B : Nat) (l : List (Nat → Int)) (w : World) (hr : Reads w B 5 A l.length (cellsLn l)) (hB : B ≤ w.heap.size) (hn : l.length ≤ 1000000) :
    Calls Try.prog 95 #[.slice A l.length c, .func (.func 56) #[] #[]] w (SomeIdxN (!l.all lineB) w) := by
  have HR := Lib.hid hr
  obtain ⟨n, hnl⟩ : ∃ n, n = l.length := ⟨_, rfl⟩
  rw [← hnl] at hn ⊢
  have HN := Lib.hid hnl
  clear hr hnl
  go_enter Try.func95, Try.ntmps95
  go_wp2_with fail
  go_loopw [8] (fun i wr => ∃ k : Nat, k ≤ n ∧ i = .int .i64 k ∧ RowKit.Hid ((l.take k).all lineB = true) ∧ RowKit.Hid (Fr w.heap.size [] w wr)) (fun i _ => n - (intOf i).toNat)
  case atStart => exact ⟨0, Nat.zero_le _, rfl, rfl, Fr.refl _ _ _⟩
  case round =>
    obtain ⟨k, hk, rfl, HA, HF⟩ := hrel
    by_cases hlt : k < n
    · obtain ⟨x, hx⟩ : ∃ x, l[k]? = some x := ⟨_, List.getElem?_eq_getElem (by rw [← HN.out]; exact hlt)⟩
      obtain ⟨b, off, rfl, hb, hc⟩ := reads_ln (HR.out.fr HF.out hB (by simp)) hx
      have p0 := hc 0 (by omega)
      have p1 := hc 1 (by omega)
      have p2 := hc 2 (by omega)
      have p3 := hc 3 (by omega)
      have p4 := hc 4 (by omega)
      simp only [Nat.add_zero, ← Nat.add_assoc] at p0 p1 p2 p3 p4
      have hki : (k : Int) < (n : Int) := by omega
      have HX := Lib.hid hx
      clear hx hc
      go_wp2_with fail
      refine (lwrong_any x _).mono ?_
      rintro e w1 ⟨rfl, f1⟩
      have F1 := Lib.hid (HF.out.trans (f1.mono (B' := w.heap.size) (L' := []) HF.out.size (by simp)))
      clear f1
      cases hrx : lineB x
      case false =>
        have HV := Lib.hid (allN_bad HX.out hrx)
        clear hrx
        go_wp2_with fail
        go_ret
        exact ⟨k, rfl, by rw [HV.out]; simp, F1.out⟩
      case true =>
        have HV := Lib.hid hrx
        clear hrx
        go_wp2_with fail
        go_roundw
        case rel => exact ⟨k + 1, by omega, by go_num, (by show _ = _; rw [allN_take_succ HX.out, HA.out, HV.out]; rfl), F1.out⟩
        case measure => simp [intOf]; omega
    · obtain rfl : n = k := by omega
      go_wp2_with fail
      go_ret
      refine ⟨-1, rfl, ?_, HF.out⟩
      have h := HA.out
      rw [List.take_of_length_le (by rw [HN.out]; exact Nat.le_refl _)] at h
      rw [h]; rfl
theorem lcontains_any (A : Option Addr) (c B : Nat) (l : List (Nat → Int)) (w : World) (hr : Reads w B 5 A l.length (cellsLn l)) (hB : B ≤ w.heap.size) (hn : l.length ≤ 1000000) :
    Calls Try.prog 55 #[.slice A l.length c, .func (.func 56) #[] #[]] w fun e w' => e = .returned (.bool (!l.all lineB)) ∧ Fr w.heap.size [] w w' := by
  have H := Lib.hid (lindex_any A c B l w hr hB hn)
  clear hr hn hB
  go_enter Try.func55, Try.ntmps55
  go_wp2_with fail
  refine H.out.mono ?_
  rintro e w' ⟨i, rfl, hi, hf⟩
  have HI := Lib.hid hi
  have HF := Lib.hid hf
  clear hi hf
  go_wp2_with fail
  go_ret
  exact ⟨by rw [← HI.out]; rfl, HF.out⟩
theorem lowns_empty (w : World) : (w.alloc (.cells #[] 93)).ownsRow w.heap.size 93 5 (.slice (some ⟨w.heap.size, 0, none⟩) 0 0) 0 [] := by
  refine ⟨rfl, .inr ⟨w.heap.size, 0, #[], rfl, Nat.le_refl _, Blk.new _ _ _, ?_⟩⟩
  simp
theorem lines_nil (A : Option Addr) (n c : Nat) (w : World) : (binOp .eql 22 (.slice A n c) (.slice none 0 0)).run Try.prog w = .ok (.bool A.isNone) w := by
  simp only [binOp]
  simp [run_equal_slice_nil w _ _ A n c Try.underlying22]
set_option maxRecDepth 100000 in
theorem lclone_any (A : Option Addr) (n c B : Nat) (l : List (Nat → Int)) (w : World) (hl : n = l.length) (hn : n ≤ 1000000) (hr : Reads w B 5 A n (cellsLn l)) (hB : B ≤ w.heap.size) :
    Calls Try.prog 65 #[.slice A n c] w fun e w' => ∃ A' c', e = .returned (.slice A' n c') ∧ w'.ownsRow w.heap.size 93 5 (.slice A' n c') n (cellsLn l) ∧ Fr w.heap.size [] w w' := by
  rcases A with _ | ad
  · have h0 : n = 0 := by
      rcases Nat.eq_zero_or_pos n with h | h
      · exact h
      · obtain ⟨b, off, e, _⟩ := hr.2 h
        cases e
    subst h0
    have hle : l = [] := List.eq_nil_of_length_eq_zero hl.symm
    subst hle
    have hq : ∀ w, (binOp .eql 22 (.slice none 0 c) (.slice none 0 0)).run Try.prog w = .ok (.bool true) w := lines_nil none 0 c
    clear hr hn hl
    go_enter Try.func65, Try.ntmps65
    go_wp2_with fail
    go_ret
    exact ⟨none, 0, rfl, World.ownsRow_nil _ _ _ _, Fr.refl _ _ _⟩
  · have ho := lowns_empty w
    have hf := (Fr.refl w.heap.size [] w).alloc (Nat.le_refl _) (.cells #[] 93)
    have hr1 := hr.fr hf hB (by simp)
    have hs : w.heap.size < (w.alloc (.cells #[] 93)).heap.size := by simp
    have hq : ∀ w, (binOp .eql 22 (.slice (some ad) n c) (.slice none 0 0)).run Try.prog w = .ok (.bool false) w := lines_nil (some ad) n c
    clear hr hl
    go_enter Try.func65, Try.ntmps65
    go_wp2_with (at_builtin; refine wpList_app _ rfl (.tmp 5) (.tmp 6) lineTy rfl w.heap.size (.slice (some ⟨w.heap.size, 0, none⟩) 0 0) 0 [] rfl ho B _ n _ (cellsLn l) rfl hr1 lnC_one (by omega) (by omega) (by simp) ?_; intro A2 c2 w2 hown2 hg2 hat2)
    go_ret
    rw [Nat.zero_add] at hown2
    exact ⟨A2, c2, rfl, by simpa using hown2, hf.grown hg2 (by simp) (fun k hk => .inl (by simp [Value.ownBlock] at hk; omega))⟩
set_option maxRecDepth 100000 in
theorem line_one_eq (a b k re im : Int) (w : World) : (Op.equalIn 10000 93 (.agg #[.int .i64 a, .int .i64 b, .int .i64 k, .int .i64 re, .int .i64 im]) (.agg #[.int .i64 a, .int .i64 b, .int .i64 k, .int .i64 re, .int .i64 im])).run Try.prog w = .ok true w := by
  rw [run_equalIn_struct w 9999 93 _ _ (by kernel_rfl) (by kernel_rfl)]
  have hsO : ∀ w, (sizeOf 32).run Try.prog w = .ok 2 w := fun w => by kernel_rfl
  have p0 : ∀ w, (part 3 #[.int .i64 a, .int .i64 b, .int .i64 k, .int .i64 re, .int .i64 im] 0).run Try.prog w = .ok (.int .i64 a) w := fun w => by
    simp [part, isAgg, run_underlying Try.underlying3]
  have p1 : ∀ w, (part 3 #[.int .i64 a, .int .i64 b, .int .i64 k, .int .i64 re, .int .i64 im] 1).run Try.prog w = .ok (.int .i64 b) w := fun w => by
    simp [part, isAgg, run_underlying Try.underlying3]
  have p2 : ∀ w, (part 3 #[.int .i64 a, .int .i64 b, .int .i64 k, .int .i64 re, .int .i64 im] 2).run Try.prog w = .ok (.int .i64 k) w := fun w => by
    simp [part, isAgg, run_underlying Try.underlying3]
  have p3 : ∀ w, (part 32 #[.int .i64 a, .int .i64 b, .int .i64 k, .int .i64 re, .int .i64 im] 3).run Try.prog w = .ok (.agg #[.int .i64 re, .int .i64 im]) w := fun w => by
    simp [part, isAgg, run_underlying Try.underlying32, hsO]
  have e0 := run_equalIn_int w 9998 3 .i64 .i64 a a Try.underlying3
  have e1 := run_equalIn_int w 9998 3 .i64 .i64 b b Try.underlying3
  have e2 := run_equalIn_int w 9998 3 .i64 .i64 k k Try.underlying3
  have e3 : (Op.equalIn 9999 32 (.agg #[.int .i64 re, .int .i64 im]) (.agg #[.int .i64 re, .int .i64 im])).run Try.prog w = .ok true w := by
    rw [run_equalIn_struct w 9998 32 _ _ (by kernel_rfl) (by kernel_rfl)]
    simp [Program.fieldsOf, Try.underlying32]
    simp [Op.eqFields, part, isAgg, run_underlying Try.underlying3, run_equalIn_int w 9997 3 .i64 .i64 _ _ Try.underlying3]
  simp [Program.fieldsOf, Try.underlying93, Op.eqFields, p0, p1, p2, p3, e0, e1, e2, e3]
theorem line_one_neq (a b k re im : Int) (w : World) : (binOp .neq 93 (.agg #[.int .i64 a, .int .i64 b, .int .i64 k, .int .i64 re, .int .i64 im]) (.agg #[.int .i64 a, .int .i64 b, .int .i64 k, .int .i64 re, .int .i64 im])).run Try.prog w = .ok (.bool false) w := by
  simp [binOp, Op.equal, Op.maxDepth, line_one_eq]
set_option maxRecDepth 100000 in
theorem lines_yes {B1 B2 : Nat} {A1 A2 : Option Addr} {c1 c2 n : Nat} {l : List (Nat → Int)} {w : World} (hn : n = l.length) (h1 : Reads w B1 5 A1 n (cellsLn l)) (h2 : Reads w B2 5 A2 n (cellsLn l)) (_hl : n ≤ 1000000) :
    Calls Try.prog 23 #[.slice A1 n c1, .slice A2 n c2] w fun e w' => e = .returned (.bool true) ∧ Fr w.heap.size [] w w' := by
  have H1 := Lib.hid h1
  have H2 := Lib.hid h2
  have HX := Lib.hid (fun (k : Nat) (hk : k < l.length) => (⟨l[k], List.getElem?_eq_getElem hk⟩ : ∃ x, l[k]? = some x))
  have HN := Lib.hid hn
  clear h1 h2 hn
  go_enter Try.func23, Try.ntmps23
  go_wp2_with fail
  go_loopw [5] (fun i wr => ∃ (k m : Nat), k ≤ n ∧ i = .int .i64 k ∧ wr = w.drewN m) (fun i _ => n - (intOf i).toNat)
  case atStart => exact ⟨0, 0, by omega, rfl, rfl⟩
  case round =>
    obtain ⟨k, m, hk, rfl, rfl⟩ := hrel
    by_cases hkn : k < n
    · obtain ⟨x, hx⟩ := HX.out k (by rw [← HN.out]; exact hkn)
      obtain ⟨b1, o1, rfl, hb1, hc1⟩ := reads_ln (by rw [← HN.out]; exact H1.out) hx
      obtain ⟨b2, o2, rfl, hb2, hc2⟩ := reads_ln (by rw [← HN.out]; exact H2.out) hx
      have p0 := hc1 0 (by omega)
      have p1 := hc1 1 (by omega)
      have p2 := hc1 2 (by omega)
      have p3 := hc1 3 (by omega)
      have p4 := hc1 4 (by omega)
      have q0 := hc2 0 (by omega)
      have q1 := hc2 1 (by omega)
      have q2 := hc2 2 (by omega)
      have q3 := hc2 3 (by omega)
      have q4 := hc2 4 (by omega)
      simp only [Nat.add_zero, ← Nat.add_assoc] at p0 p1 p2 p3 p4 q0 q1 q2 q3 q4
      have hki : (k : Int) < (n : Int) := by omega
      have hnq := fun w => line_one_neq (x 0) (x 1) (x 2) (x 3) (x 4) w
      clear hc1 hc2 hx
      go_wp2_with fail
      go_quiet (fail)
      go_wp2_with fail
      go_roundw
      case rel => exact ⟨k + 1, _, by omega, by go_num, rfl⟩
      case measure => simp [intOf]; omega
    · obtain rfl : k = n := by omega
      go_wp2_with fail
      go_ret
      exact ⟨rfl, (Fr.refl _ _ _).drewN _⟩
end Go.Proofs.Ytdkdhhfejbecdaa
