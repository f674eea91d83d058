/- A source with one partition: Left; lists of records cloned, and compared. -/
import Derived.Test.YtdkdhhfejbecdaaSrcD
import Derived.Laws.Cover3
namespace Go.Proofs.Ytdkdhhfejbecdaa
open Go.RowKit Go.Fb
theorem recC_one {l : List (Nat → Int)} : ∀ u ∈ cellsR l, u.oneCell' = true := by
  intro u hu
  obtain ⟨x, _, hx⟩ := List.mem_flatMap.1 hu
  simp only [recC, List.mem_cons, List.not_mem_nil, or_false] at hx
  rcases hx with rfl | rfl | rfl <;> rfl
theorem owns_empty (w : World) : (w.alloc (.cells #[] 64)).ownsRow w.heap.size 64 3 (.slice (some ⟨w.heap.size, 0, none⟩) 0 0) 0 [] := by
  refine ⟨rfl, .inr ⟨w.heap.size, 0, #[], rfl, Nat.le_refl _, Blk.new _ _ _, ?_⟩⟩
  simp
theorem recs_nil (A : Option Addr) (n c : Nat) (w : World) : (binOp .eql 56 (.slice A n c) (.slice none 0 0)).run Try.prog w = .ok (.bool A.isNone) w := by
  simp only [binOp]
  simp [run_equal_slice_nil w _ _ A n c Try.underlying56]
set_option maxRecDepth 100000 in
theorem clone_any (A : Option Addr) (n c : Nat) (l : List (Nat → Int)) (w : World) (hl : n = l.length) (hn : n ≤ 1000) (hr : Reads w w.heap.size 3 A n (cellsR l)) :
    Calls Try.prog 140 #[.slice A n c] w fun e w' => ∃ A' c', e = .returned (.slice A' n c') ∧ w'.ownsRow w.heap.size 64 3 (.slice A' n c') n (cellsR l) ∧ Fr w.heap.size [] w w' := by
  rcases A with _ | ad
  · have h0 : n = 0 := by
      rcases Nat.eq_zero_or_pos n with h | h
      · exact h
      · obtain ⟨b, off, e, _⟩ := hr.2 h
        cases e
    subst h0
    have hle : l = [] := List.eq_nil_of_length_eq_zero hl.symm
    subst hle
    have hq : ∀ w, (binOp .eql 56 (.slice none 0 c) (.slice none 0 0)).run Try.prog w = .ok (.bool true) w := recs_nil none 0 c
    clear hr hn hl
    go_enter Try.func140, Try.ntmps140
    go_wp2_with fail
    go_ret
    exact ⟨none, 0, rfl, World.ownsRow_nil _ _ _ _, Fr.refl _ _ _⟩
  · have ho := owns_empty w
    have hf := (Fr.refl w.heap.size [] w).alloc (Nat.le_refl _) (.cells #[] 64)
    have hr1 := hr.fr hf (Nat.le_refl _) (by simp)
    have hs : w.heap.size < (w.alloc (.cells #[] 64)).heap.size := by simp
    have hq : ∀ w, (binOp .eql 56 (.slice (some ad) n c) (.slice none 0 0)).run Try.prog w = .ok (.bool false) w := recs_nil (some ad) n c
    clear hr hl
    go_enter Try.func140, Try.ntmps140
    go_wp2_with (at_builtin; refine wpList_app _ rfl (.tmp 5) (.tmp 6) recTy rfl w.heap.size (.slice (some ⟨w.heap.size, 0, none⟩) 0 0) 0 [] rfl ho w.heap.size _ n _ (cellsR l) rfl hr1 recC_one (by omega) (by omega) (by simp) ?_; intro A2 c2 w2 hown2 hg2 hat2)
    go_ret
    rw [Nat.zero_add] at hown2
    exact ⟨A2, c2, rfl, by simpa using hown2, hf.grown hg2 (by simp) (fun k hk => .inl (by simp [Value.ownBlock] at hk; omega))⟩
set_option maxRecDepth 100000 in
theorem recs_one_eq (k re im : Int) (w : World) : (Op.equalIn 10000 64 (.agg #[.int .i64 k, .int .i64 re, .int .i64 im]) (.agg #[.int .i64 k, .int .i64 re, .int .i64 im])).run Try.prog w = .ok true w := by
  rw [run_equalIn_struct w 9999 64 _ _ (by kernel_rfl) (by kernel_rfl)]
  have hsO : ∀ w, (sizeOf 32).run Try.prog w = .ok 2 w := fun w => by kernel_rfl
  have p0 : ∀ w, (part 3 #[.int .i64 k, .int .i64 re, .int .i64 im] 0).run Try.prog w = .ok (.int .i64 k) w := fun w => by
    simp [part, isAgg, run_underlying Try.underlying3]
  have p1 : ∀ w, (part 32 #[.int .i64 k, .int .i64 re, .int .i64 im] 1).run Try.prog w = .ok (.agg #[.int .i64 re, .int .i64 im]) w := fun w => by
    simp [part, isAgg, run_underlying Try.underlying32, hsO]
  have e0 := run_equalIn_int w 9998 3 .i64 .i64 k k Try.underlying3
  have e1 : (Op.equalIn 9999 32 (.agg #[.int .i64 re, .int .i64 im]) (.agg #[.int .i64 re, .int .i64 im])).run Try.prog w = .ok true w := by
    rw [run_equalIn_struct w 9998 32 _ _ (by kernel_rfl) (by kernel_rfl)]
    simp [Program.fieldsOf, Try.underlying32]
    simp [Op.eqFields, part, isAgg, run_underlying Try.underlying3, run_equalIn_int w 9997 3 .i64 .i64 _ _ Try.underlying3]
  simp [Program.fieldsOf, Try.underlying64, Op.eqFields, p0, p1, e0, e1]
theorem recs_one_neq (k re im : Int) (w : World) : (binOp .neq 64 (.agg #[.int .i64 k, .int .i64 re, .int .i64 im]) (.agg #[.int .i64 k, .int .i64 re, .int .i64 im])).run Try.prog w = .ok (.bool false) w := by
  simp [binOp, Op.equal, Op.maxDepth, recs_one_eq]
set_option maxRecDepth 100000 in
theorem recs_yes {B1 B2 : Nat} {A1 A2 : Option Addr} {c1 c2 n : Nat} {l : List (Nat → Int)} {w : World} (hn : n = l.length) (h1 : Reads w B1 3 A1 n (cellsR l)) (h2 : Reads w B2 3 A2 n (cellsR l)) (_hl : n ≤ 1000) :
    Calls Try.prog 31 #[.slice A1 n c1, .slice A2 n c2] w fun e w' => e = .returned (.bool true) ∧ Fr w.heap.size [] w w' := by
  have H1 := Lib.hid h1
  have H2 := Lib.hid h2
  have HX := Lib.hid (fun (k : Nat) (hk : k < l.length) => (⟨l[k], List.getElem?_eq_getElem hk⟩ : ∃ x, l[k]? = some x))
  have HN := Lib.hid hn
  clear h1 h2 hn
  go_enter Try.func31, Try.ntmps31
  go_wp2_with fail
  go_loopw [5] (fun i wr => ∃ (k m : Nat), k ≤ n ∧ i = .int .i64 k ∧ wr = w.drewN m) (fun i _ => n - (intOf i).toNat)
  case atStart => exact ⟨0, 0, by omega, rfl, rfl⟩
  case round =>
    obtain ⟨k, m, hk, rfl, rfl⟩ := hrel
    by_cases hkn : k < n
    · obtain ⟨x, hx⟩ := HX.out k (by rw [← HN.out]; exact hkn)
      obtain ⟨b1, o1, rfl, hb1, hc1⟩ := reads_rec (by rw [← HN.out]; exact H1.out) hx
      obtain ⟨b2, o2, rfl, hb2, hc2⟩ := reads_rec (by rw [← HN.out]; exact H2.out) hx
      have p0 := hc1 0 (by omega)
      have p1 := hc1 1 (by omega)
      have p2 := hc1 2 (by omega)
      have q0 := hc2 0 (by omega)
      have q1 := hc2 1 (by omega)
      have q2 := hc2 2 (by omega)
      simp only [Nat.add_zero, ← Nat.add_assoc] at p0 p1 p2 q0 q1 q2
      have hki : (k : Int) < (n : Int) := by omega
      have hnq := fun w => recs_one_neq (x 0) (x 1) (x 2) w
      clear hc1 hc2 hx
      go_wp2_with fail
      go_quiet (fail)
      go_wp2_with fail
      go_roundw
      case rel => exact ⟨k + 1, _, by omega, by go_num, rfl⟩
      case measure => simp [intOf]; omega
    · obtain rfl : k = n := by omega
      go_wp2_with fail
      go_ret
      exact ⟨rfl, (Fr.refl _ _ _).drewN _⟩
theorem held_nil (m : Nat) (w : World) : Calls Try.prog 139 #[.slice none 0 0, .int .i64 0, .int .i64 m] w fun e w' => e = .returned (.int .i64 0) ∧ w = w' := by
  go_enter Try.func139, Try.ntmps139
  go_wp2_with fail
  go_ret
  exact ⟨rfl, rfl⟩
theorem held_one {A : Option Addr} {c a m B : Nat} (ha : a ≤ m) (w : World) (hr : Reads w B 1 A 1 [.int .i64 (a : Int)]) : Calls Try.prog 139 #[.slice A 1 c, .int .i64 0, .int .i64 m] w fun e w' => e = .returned (.int .i64 a) ∧ w = w' := by
  obtain ⟨b1, o1, u, rfl, hb1, hu, hc1⟩ := hr.one (k := 0) (by omega)
  simp at hu
  subst hu
  rw [Nat.add_zero] at hc1
  clear hr
  have hai : (a : Int) ≤ (m : Int) := by omega
  have ha0 : (0 : Int) ≤ (a : Int) := by omega
  go_enter Try.func139, Try.ntmps139
  go_wp2_with fail
  go_ret
  exact ⟨rfl, rfl⟩
end Go.Proofs.Ytdkdhhfejbecdaa
