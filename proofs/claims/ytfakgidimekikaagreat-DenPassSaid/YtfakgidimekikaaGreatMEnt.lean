/- Texts merged into one, for the number of files a claim may have: EntEq, Parts. -/
import Derived.Test.YtfakgidimekikaaGreatMArrEq
import Derived.Test.YtfakgidimekikaaGreatRows
import Derived.Test.YtfakgidimekikaaGreatMA
import Derived.Laws.StructEq
namespace Go.Proofs.YtfakgidimekikaaGreat
open Go.RowKit Go.Fb
set_option maxRecDepth 100000 in
theorem val_eq (d : Nat) (a b : Int) (w : World) : (Op.equalIn (d + 2) 24 (.agg #[.int .i64 a, .int .i64 b]) (.agg #[.int .i64 a, .int .i64 b])).run Tryz.prog w = .ok true w := by
  rw [run_equalIn_struct w (d + 1) 24 _ _ (by kernel_rfl) (by kernel_rfl)]
  simp [Program.fieldsOf, Tryz.underlying24]
  simp [Op.eqFields, part, isAgg, run_underlying Tryz.underlying3, run_equalIn_int w d 3 .i64 .i64 _ _ Tryz.underlying3]
theorem valinfo : (Tryz.prog.info? 24).map (fun i => (i.zero, i.size, i.bytes)) = some (some (.agg #[.int .i64 0, .int .i64 0]), 2, 16) := by kernel_rfl
set_option maxRecDepth 100000 in
theorem vals_eq (d : Nat) (a b c e : Int) (w : World) : (Op.equalIn (d + 3) 95 (.agg #[.int .i64 a, .int .i64 b, .int .i64 c, .int .i64 e]) (.agg #[.int .i64 a, .int .i64 b, .int .i64 c, .int .i64 e])).run Tryz.prog w = .ok true w := by
  obtain ⟨i, hi, hz, hsz, hby⟩ := info_parts valinfo
  rw [run_equalIn_array w (d + 2) _ _ Tryz.underlying95 hi]
  have hc : Tryz.prog.cellsOf 24 = 2 := by kernel_rfl
  have hsO : ∀ w, (sizeOf 24).run Tryz.prog w = .ok 2 w := fun w => by kernel_rfl
  have p0 : ∀ w, (part 24 #[.int .i64 a, .int .i64 b, .int .i64 c, .int .i64 e] 0).run Tryz.prog w = .ok (.agg #[.int .i64 a, .int .i64 b]) w := fun w => by
    simp [part, isAgg, run_underlying Tryz.underlying24, hsO]
  have p1 : ∀ w, (part 24 #[.int .i64 a, .int .i64 b, .int .i64 c, .int .i64 e] 2).run Tryz.prog w = .ok (.agg #[.int .i64 c, .int .i64 e]) w := fun w => by
    simp [part, isAgg, run_underlying Tryz.underlying24, hsO]
  simp [hc, List.range_succ, Op.eqItems, p0, p1, val_eq]
set_option maxRecDepth 100000 in
theorem ent_eq (x0 x1 x2 x3 x4 x5 : Int) (w : World) : (Op.equalIn 10000 97 (.agg #[.int .i64 x0, .int .i64 x1, .int .i64 x2, .int .i64 x3, .int .i64 x4, .int .i64 x5]) (.agg #[.int .i64 x0, .int .i64 x1, .int .i64 x2, .int .i64 x3, .int .i64 x4, .int .i64 x5])).run Tryz.prog w = .ok true w := by
  rw [run_equalIn_struct w 9999 97 _ _ (by kernel_rfl) (by kernel_rfl)]
  have hsO : ∀ w, (sizeOf 95).run Tryz.prog w = .ok 4 w := fun w => by kernel_rfl
  have p2 : ∀ w, (part 95 #[.int .i64 x0, .int .i64 x1, .int .i64 x2, .int .i64 x3, .int .i64 x4, .int .i64 x5] 2).run Tryz.prog w = .ok (.agg #[.int .i64 x2, .int .i64 x3, .int .i64 x4, .int .i64 x5]) w := fun w => by
    simp [part, isAgg, run_underlying Tryz.underlying95, hsO]
  have p0 : ∀ w, (part 3 #[.int .i64 x0, .int .i64 x1, .int .i64 x2, .int .i64 x3, .int .i64 x4, .int .i64 x5] 0).run Tryz.prog w = .ok (.int .i64 x0) w := fun w => by
    simp [part, isAgg, run_underlying Tryz.underlying3]
  have p1 : ∀ w, (part 3 #[.int .i64 x0, .int .i64 x1, .int .i64 x2, .int .i64 x3, .int .i64 x4, .int .i64 x5] 1).run Tryz.prog w = .ok (.int .i64 x1) w := fun w => by
    simp [part, isAgg, run_underlying Tryz.underlying3]
  have v := vals_eq 9996 x2 x3 x4 x5 w
  have e0 := run_equalIn_int w 9998 3 .i64 .i64 x0 x0 Tryz.underlying3
  have e1 := run_equalIn_int w 9998 3 .i64 .i64 x1 x1 Tryz.underlying3
  simp [Program.fieldsOf, Tryz.underlying97, Op.eqFields, p0, p1, p2, v, e0, e1]
theorem ent_neq (x0 x1 x2 x3 x4 x5 : Int) (w : World) : (binOp .neq 97 (.agg #[.int .i64 x0, .int .i64 x1, .int .i64 x2, .int .i64 x3, .int .i64 x4, .int .i64 x5]) (.agg #[.int .i64 x0, .int .i64 x1, .int .i64 x2, .int .i64 x3, .int .i64 x4, .int .i64 x5])).run Tryz.prog w = .ok (.bool false) w := by
  simp [binOp, Op.equal, Op.maxDepth, ent_eq]
end Go.Proofs.YtfakgidimekikaaGreat
namespace Go.Proofs.YtfakgidimekikaaGreat
open Go.RowKit Go.Fb
/-- The cells of an entry. -/
def entC (x : Nat → Int) : List Value := [.int .i64 (x 0), .int .i64 (x 1), .int .i64 (x 2), .int .i64 (x 3), .int .i64 (x 4), .int .i64 (x 5)]
def cellsE (l : List (Nat → Int)) : List Value := l.flatMap entC
theorem cellsE_length (l : List (Nat → Int)) : (cellsE l).length = l.length * 6 := by
  unfold cellsE
  induction l with
  | nil => rfl
  | cons x l ih => rw [List.flatMap_cons, List.length_append, ih]; simp [entC]; omega
theorem entC_get (x : Nat → Int) : ∀ j, j < 6 → (entC x)[j]? = some (.int .i64 (x j))
  | 0, _ => rfl
  | 1, _ => rfl
  | 2, _ => rfl
  | 3, _ => rfl
  | 4, _ => rfl
  | 5, _ => rfl
  | j + 6, h => by omega
theorem cellsE_get : ∀ {l : List (Nat → Int)} {k : Nat} {x : Nat → Int}, l[k]? = some x → ∀ j, j < 6 → (cellsE l)[k * 6 + j]? = some (.int .i64 (x j))
  | [], k, x, h, _, _ => by simp at h
  | y :: l, 0, x, h, j, hj => by
    simp at h
    subst h
    rw [cellsE, List.flatMap_cons, Nat.zero_mul, Nat.zero_add, List.getElem?_append_left (by simp [entC]; omega)]
    exact entC_get y j hj
  | y :: l, k + 1, x, h, j, hj => by
    rw [cellsE, List.flatMap_cons, List.getElem?_append_right (by simp [entC]; omega)]
    have ih := cellsE_get (l := l) (k := k) (x := x) (by simpa using h) j hj
    have e : (k + 1) * 6 + j - (entC y).length = k * 6 + j := by simp [entC]; omega
    rw [e]
    exact ih
theorem reads_ent {w : World} {B : Nat} {A : Option Addr} {l : List (Nat → Int)} (h : Reads w B 6 A l.length (cellsE l)) {k : Nat} {x : Nat → Int} (hx : l[k]? = some x) :
    ∃ b off, A = some ⟨b, off, none⟩ ∧ b < B ∧ ∀ j, j < 6 → w.cell? ⟨b, off + (k * 6 + j), none⟩ = some (.int .i64 (x j)) := by
  have hk : k < l.length := by
    rcases Nat.lt_or_ge k l.length with h | h
    · exact h
    · rw [List.getElem?_eq_none h] at hx; cases hx
  obtain ⟨b, off, e, hb, hc⟩ := h.2 (by omega)
  exact ⟨b, off, e, hb, fun j hj => hc _ _ (cellsE_get hx j hj)⟩
set_option maxRecDepth 100000 in
theorem same_yes {w : World} {B1 B2 : Nat} {A1 A2 : Option Addr} {c1 c2 : Nat} {l : List (Nat → Int)} (h1 : Reads w B1 6 A1 l.length (cellsE l)) (h2 : Reads w B2 6 A2 l.length (cellsE l)) (_hl : l.length ≤ 100) :
    Calls Tryz.prog 29 #[.slice A1 l.length c1, .slice A2 l.length c2] w fun e w' => e = .returned (.bool true) ∧ Fr w.heap.size [] w w' := by
  have H1 := Lib.hid h1
  have H2 := Lib.hid h2
  have HX := Lib.hid (fun (k : Nat) (hk : k < l.length) => (⟨l[k], List.getElem?_eq_getElem hk⟩ : ∃ x, l[k]? = some x))
  clear h1 h2
  generalize hn : l.length = n at *
  have HN := Lib.hid hn
  clear hn
  go_enter Tryz.func29, Tryz.ntmps29
  go_wp2_with fail
  go_loopw [5] (fun i wr => ∃ (k m : Nat), k ≤ n ∧ i = .int .i64 k ∧ wr = w.drewN m) (fun i _ => n - (intOf i).toNat)
  case atStart => exact ⟨0, 0, by omega, rfl, rfl⟩
  case round =>
    obtain ⟨k, m, hk, rfl, rfl⟩ := hrel
    by_cases hkn : k < n
    · obtain ⟨x, hx⟩ := HX.out k hkn
      obtain ⟨b1, o1, rfl, hb1, hc1⟩ := reads_ent (by rw [HN.out]; exact H1.out) hx
      obtain ⟨b2, o2, rfl, hb2, hc2⟩ := reads_ent (by rw [HN.out]; exact H2.out) hx
      have p0 := hc1 0 (by omega)
      have p1 := hc1 1 (by omega)
      have p2 := hc1 2 (by omega)
      have p3 := hc1 3 (by omega)
      have p4 := hc1 4 (by omega)
      have p5 := hc1 5 (by omega)
      have q0 := hc2 0 (by omega)
      have q1 := hc2 1 (by omega)
      have q2 := hc2 2 (by omega)
      have q3 := hc2 3 (by omega)
      have q4 := hc2 4 (by omega)
      have q5 := hc2 5 (by omega)
      simp only [Nat.add_zero, ← Nat.add_assoc] at p0 p1 p2 p3 p4 p5 q0 q1 q2 q3 q4 q5
      have hki : (k : Int) < (n : Int) := by omega
      have hnq := fun w => ent_neq (x 0) (x 1) (x 2) (x 3) (x 4) (x 5) w
      clear hc1 hc2 hx
      go_wp2_with fail
      go_quiet (fail)
      go_wp2_with fail
      go_roundw
      case rel => exact ⟨k + 1, _, by omega, by go_num, rfl⟩
      case measure => simp [intOf]; omega
    · obtain rfl : k = n := by omega
      go_wp2_with fail
      go_ret
      exact ⟨rfl, (Fr.refl _ _ _).drewN _⟩
end Go.Proofs.YtfakgidimekikaaGreat
