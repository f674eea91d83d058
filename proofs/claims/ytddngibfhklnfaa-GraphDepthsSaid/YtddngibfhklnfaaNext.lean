/- The contract of check.next. -/
import Derived.Test.YtddngibfhklnfaaWalk
namespace Go.Proofs.Ytddngibfhklnfaa
open Go.RowKit Go.Fb
theorem right_range {i : Int × Int} (h : rightB i = true) : 0 ≤ i.1 ∧ i.1 ≤ 17 ∧ -524288 ≤ i.2 ∧ i.2 ≤ 524287 ∧ ((i.1 = 15 ∨ i.1 = 16) → 1 ≤ i.2 ∧ i.2 ≤ 24) ∧ ((i.1 = 4 ∨ i.1 = 5) → 0 ≤ i.2 ∧ i.2 ≤ 1) := by
  obtain ⟨o, a⟩ := i
  unfold rightB boF boT at h
  have h := of_decide_eq_true h
  simp only at h ⊢
  by_cases h1 : o = 1 ∨ o = 2
  · rw [if_pos h1, if_pos h1] at h; omega
  · rw [if_neg h1, if_neg h1] at h
    by_cases h2 : o = 4 ∨ o = 5
    · rw [if_pos h2, if_pos h2] at h; omega
    · rw [if_neg h2, if_neg h2] at h
      by_cases h3 : o = 15 ∨ o = 16
      · rw [if_pos h3, if_pos h3] at h; omega
      · rw [if_neg h3, if_neg h3] at h; omega
/-- What next leaves. -/
def NextOut (L : List Nat) (w : World) (e : Ending) (w' : World) : Prop :=
  ∃ A c, e = .returned (.slice A L.length c) ∧ Reads w' w'.heap.size 1 A L.length (L.map fun t : Nat => Value.int .i64 t) ∧ (∀ ad, A = some ad → w.heap.size ≤ ad.block) ∧ Fr w.heap.size [] w w'
theorem reads_new1 (w : World) (a : Nat) : Reads (w.alloc (.cells #[.int .i64 a] 3)) (w.alloc (.cells #[.int .i64 a] 3)).heap.size 1 (some ⟨w.heap.size, 0, none⟩) 1 ([a].map fun t : Nat => Value.int .i64 t) :=
  (Reads.of_blk (size := 1) (m := 1) (Blk.new w 3 #[.int .i64 a]) rfl).more (by simp)
theorem reads_new2 (w : World) (a b : Nat) : Reads (w.alloc (.cells #[.int .i64 a, .int .i64 b] 3)) (w.alloc (.cells #[.int .i64 a, .int .i64 b] 3)).heap.size 1 (some ⟨w.heap.size, 0, none⟩) 2 ([a, b].map fun t : Nat => Value.int .i64 t) :=
  (Reads.of_blk (size := 1) (m := 2) (Blk.new w 3 #[.int .i64 a, .int .i64 b]) rfl).more (by simp)
set_option maxRecDepth 100000 in
set_option maxHeartbeats 2000000 in
theorem next_any (A : Option Addr) (c B : Nat) (l : List (Int × Int)) (k : Nat) (i : Int × Int) (w : World) (hr : Reads w B 2 A l.length (cellsI l)) (hB : B ≤ w.heap.size) (hn : l.length ≤ 24) (hx : l[k]? = some i) (hi : rightB i = true) :
    Calls Try.prog 129 #[.slice A l.length c, .int .i64 k] w (NextOut (nextsF l.length k i) w) := by
  have hkl : k < l.length := by
    rcases Nat.lt_or_ge k l.length with h' | h'
    · exact h'
    · rw [List.getElem?_eq_none h'] at hx; cases hx
  obtain ⟨b, off, rfl, hb, c1, c2⟩ := reads_ins hr hx
  obtain ⟨r1, r2, r3, r4, r5, r6⟩ := right_range hi
  obtain ⟨o, a⟩ := i
  obtain ⟨n, hnl⟩ : ∃ n, n = l.length := ⟨_, rfl⟩
  rw [← hnl] at hn hkl ⊢
  have hbw : b < w.heap.size := by omega
  simp only at c1 c2 r1 r2 r3 r4 r5 r6
  clear hr hx hi hnl hb hB
  obtain ⟨L, hL⟩ : ∃ L, L = nextsF n k (o, a) := ⟨_, rfl⟩
  rw [← hL]
  unfold nextsF at hL
  simp only at hL
  have hki : (k : Int) < (n : Int) := by omega
  by_cases h0 : o = 0
  · rw [if_pos h0] at hL
    subst hL h0
    clear r5 r6
    by_cases hf : (k : Int) + 1 + a ≤ n
    all_goals
      go_enter Try.func129, Try.ntmps129
      go_wp2_with fail
      go_ret
      exact ⟨none, 0, rfl, Reads.none_, (fun _ h => by cases h), (Fr.refl _ _ _).alloc (Nat.le_refl _) _⟩
  by_cases h16 : o = 16
  · rw [if_neg h0, if_pos h16] at hL
    obtain ⟨q1, q2⟩ := r5 (.inr h16)
    obtain ⟨m, hm⟩ := Int.eq_ofNat_of_zero_le (show 0 ≤ a by omega)
    have hm' : a = (m : Int) := hm
    subst hm' h16
    unfold farF at hL
    rw [Int.toNat_natCast] at hL
    clear r5 r6 h0 hm
    by_cases hf : k + 1 + m ≤ n
    · rw [Nat.min_eq_left hf] at hL
      subst hL
      have hf' : (k : Int) + 1 + m ≤ n := by omega
      go_enter Try.func129, Try.ntmps129
      go_wp2_with fail
      go_ret
      refine ⟨_, 1, rfl, ?_, (fun ad h => by injection h with h; subst h; simp), ((Fr.refl _ _ _).alloc (Nat.le_refl _) _).alloc (by simp) _⟩
      have h := reads_new1 (w.alloc (.cells #[.int .i64 16, .int .i64 m] 71)) (k + 1 + m)
      simpa using h
    · rw [Nat.min_eq_right (by omega)] at hL
      subst hL
      have hf' : (n : Int) < (k : Int) + 1 + m := by omega
      go_enter Try.func129, Try.ntmps129
      go_wp2_with fail
      go_ret
      refine ⟨_, 1, rfl, ?_, (fun ad h => by injection h with h; subst h; simp), ((Fr.refl _ _ _).alloc (Nat.le_refl _) _).alloc (by simp) _⟩
      have h := reads_new1 (w.alloc (.cells #[.int .i64 16, .int .i64 m] 71)) n
      simpa using h
  by_cases h15 : o = 15
  · rw [if_neg h0, if_neg h16, if_pos h15] at hL
    obtain ⟨q1, q2⟩ := r5 (.inl h15)
    obtain ⟨m, hm⟩ := Int.eq_ofNat_of_zero_le (show 0 ≤ a by omega)
    have hm' : a = (m : Int) := hm
    subst hm' h15
    unfold farF at hL
    rw [Int.toNat_natCast] at hL
    clear r5 r6 h0 h16 hm
    by_cases hf : k + 1 + m ≤ n
    · rw [Nat.min_eq_left hf] at hL
      subst hL
      have hf' : (k : Int) + 1 + m ≤ n := by omega
      go_enter Try.func129, Try.ntmps129
      go_wp2_with fail
      go_ret
      refine ⟨_, 2, rfl, ?_, (fun ad h => by injection h with h; subst h; simp), ((Fr.refl _ _ _).alloc (Nat.le_refl _) _).alloc (by simp) _⟩
      have h := reads_new2 (w.alloc (.cells #[.int .i64 15, .int .i64 m] 71)) (k + 1) (k + 1 + m)
      simpa using h
    · rw [Nat.min_eq_right (by omega)] at hL
      subst hL
      have hf' : (n : Int) < (k : Int) + 1 + m := by omega
      go_enter Try.func129, Try.ntmps129
      go_wp2_with fail
      go_ret
      refine ⟨_, 2, rfl, ?_, (fun ad h => by injection h with h; subst h; simp), ((Fr.refl _ _ _).alloc (Nat.le_refl _) _).alloc (by simp) _⟩
      have h := reads_new2 (w.alloc (.cells #[.int .i64 15, .int .i64 m] 71)) (k + 1) n
      simpa using h
  · rw [if_neg h0, if_neg h16, if_neg h15] at hL
    subst hL
    have e0 : (o == 0) = false := by simpa using h0
    have e16 : (o == 16) = false := by simpa using h16
    have e15 : (o == 15) = false := by simpa using h15
    clear r5 r6 h0 h16 h15
    by_cases hf : (k : Int) + 1 + a ≤ n
    all_goals
      go_enter Try.func129, Try.ntmps129
      go_wp2_with fail
      go_ret
      refine ⟨_, 1, rfl, ?_, (fun ad h => by injection h with h; subst h; simp), ((Fr.refl _ _ _).alloc (Nat.le_refl _) _).alloc (by simp) _⟩
      have h := reads_new1 (w.alloc (.cells #[.int .i64 o, .int .i64 a] 71)) (k + 1)
      simpa using h
end Go.Proofs.Ytddngibfhklnfaa
