/- Texts merged into one, for the number of files a claim may have: Gauss, LnA, PlMap, LnB, By, Add, Gau2, Gau3, Gau4, Gau5, VmP, Bz. -/
import Derived.Test.YthfibggbipkmfaaGreatDX0
import Derived.Test.YthfibggbipkmfaaGreatDX5
import Derived.Test.YthfibggbipkmfaaGreatDX6
import Derived.ChangeKeysEq
import Derived.Deep.DeepCutAuto
import Derived.Deep.LoopGhost
import Derived.Deep.RegionHeld3
import Derived.Deep.RegionWith
import Derived.Laws.Cover3
import Derived.Laws.StructEq
import Derived.Test.YthfibggbipkmfaaGreatRows
import Derived.WideKeyEntry
import Derived.WideMake
namespace Go.Proofs.YthfibggbipkmfaaGreat
open Go.RowKit Go.Fb
/-- A number, taken into the range. -/
def cen (n : Int) : Int := (n + 524288) % 1048576 - 524288
theorem cen_of {n q m : Int} (h : n = 1048576 * q + m) (hm : -524288 ≤ m ∧ m < 524288) : cen n = m := by unfold cen; omega
theorem cen_iff (n : Int) : cen n = n ↔ -524288 ≤ n ∧ n < 524288 := by unfold cen; omega
/-- May a value be? -/
def valB (re im : Int) : Bool := decide (-524288 ≤ re ∧ re < 524288 ∧ -524288 ≤ im ∧ im < 524288)
theorem valB_cen (re im : Int) : (re == cen re && im == cen im) = valB re im := by
  unfold valB
  rw [Bool.eq_iff_iff]
  simp only [Bool.and_eq_true, beq_iff_eq, decide_eq_true_eq]
  have h1 := cen_iff re
  have h2 := cen_iff im
  constructor
  · rintro ⟨a, b⟩
    have := h1.1 a.symm
    have := h2.1 b.symm
    omega
  · intro h
    exact ⟨(h1.2 (by omega)).symm, (h2.2 (by omega)).symm⟩
theorem tmod_parts (n : Int) : ∃ q m : Int, n = 1048576 * q + m ∧ n.tmod 1048576 = m ∧ -1048576 < m ∧ m < 1048576 := by
  refine ⟨n.tdiv 1048576, n.tmod 1048576, (Int.mul_tdiv_add_tmod n 1048576).symm, rfl, ?_⟩
  rcases Int.le_total 0 n with h | h
  · rw [Int.tmod_eq_emod_of_nonneg h]; omega
  · have := Int.neg_tmod n 1048576
    have h2 : (-n).tmod 1048576 = (-n) % 1048576 := Int.tmod_eq_emod_of_nonneg (by omega)
    omega
theorem into_any (n : Int) (w : World) : Calls Tryz.prog 114 #[.int .i64 n] w fun e w' => e = .returned (.int .i64 (cen n)) ∧ w = w' := by
  obtain ⟨q, m, hn, hm, h1, h2⟩ := tmod_parts n
  have HN := Lib.hid hn
  clear hn
  by_cases c1 : m < -524288
  · have hv : cen n = m + 1048576 := cen_of (q := q - 1) (by rw [HN.out]; omega) (by omega)
    rw [hv]
    clear hv
    go_enter Tryz.func114, Tryz.ntmps114
    go_wp2_with fail
    go_ret
    exact ⟨rfl, rfl⟩
  by_cases c2 : m < 0
  · have hv : cen n = m + 1048576 - 1048576 := by rw [cen_of HN.out (by omega)]; omega
    rw [hv]
    clear hv
    go_enter Tryz.func114, Tryz.ntmps114
    go_wp2_with fail
    go_ret
    exact ⟨rfl, rfl⟩
  by_cases c3 : m < 524288
  · have hv : cen n = m := cen_of HN.out (by omega)
    rw [hv]
    clear hv
    go_enter Tryz.func114, Tryz.ntmps114
    go_wp2_with fail
    go_ret
    exact ⟨rfl, rfl⟩
  · have hv : cen n = m - 1048576 := cen_of (q := q + 1) (by rw [HN.out]; omega) (by omega)
    rw [hv]
    clear hv
    go_enter Tryz.func114, Tryz.ntmps114
    go_wp2_with fail
    go_ret
    exact ⟨rfl, rfl⟩
set_option maxRecDepth 100000 in
theorem gof_any (re im : Int) (w : World) : Calls Tryz.prog 90 #[.int .i64 re, .int .i64 im] w fun e w' => e = .returned (.agg #[.int .i64 (cen re), .int .i64 (cen im)]) ∧ Fr w.heap.size [] w w' := by
  have h1 := into_any re
  have h2 := into_any im
  generalize cen re = a at *
  generalize cen im = b at *
  go_enter Tryz.func90, Tryz.ntmps90
  go_wp2_with fail
  refine (h1 _).mono ?_
  rintro e w' ⟨rfl, rfl⟩
  go_wp2_with fail
  refine (h2 _).mono ?_
  rintro e w' ⟨rfl, rfl⟩
  go_wp2_with fail
  exact bodyPost_ret (results_cell_row rfl _ _ w.heap.size 42 #[.int .i64 a, .int .i64 b] (0, 0) _ rfl (Blk.new w 42 #[.int .i64 a, .int .i64 b]) Tryz.underlying42 rfl (by kernel_rfl)) rfl ⟨rfl, (Fr.refl _ _ _).alloc (Nat.le_refl _) _⟩
set_option maxRecDepth 100000 in
theorem val_cmp (a b c d : Int) (w : World) : (binOp .eql 42 (.agg #[.int .i64 a, .int .i64 b]) (.agg #[.int .i64 c, .int .i64 d])).run Tryz.prog w = .ok (.bool (a == c && b == d)) w := by
  have h : (Op.equalIn 10000 42 (.agg #[.int .i64 a, .int .i64 b]) (.agg #[.int .i64 c, .int .i64 d])).run Tryz.prog w = .ok (a == c && b == d) w := by
    rw [run_equalIn_struct w 9999 42 _ _ (by kernel_rfl) (by kernel_rfl)]
    simp [Program.fieldsOf, Tryz.underlying42]
    by_cases h1 : a = c
    · by_cases h2 : b = d <;> simp [Op.eqFields, part, isAgg, run_underlying Tryz.underlying3, run_equalIn_int w 9998 3 .i64 .i64 _ _ Tryz.underlying3, h1, h2]
    · simp [Op.eqFields, part, isAgg, run_underlying Tryz.underlying3, run_equalIn_int w 9998 3 .i64 .i64 _ _ Tryz.underlying3, h1]
  simp [binOp, Op.equal, Op.maxDepth, h]
/-- May a record be? -/
def recB (k re im : Int) : Bool := decide (0 ≤ k ∧ k < 64) && valB re im
set_option maxRecDepth 100000 in
theorem gright_any (re im : Int) (w : World) : Calls Tryz.prog 54 #[.agg #[.int .i64 re, .int .i64 im]] w fun e w' => e = .returned (.bool (valB re im)) ∧ Fr w.heap.size [] w w' := by
  have hcmp := fun w => val_cmp re im (cen re) (cen im) w
  rw [valB_cen] at hcmp
  have HO := Lib.hid (gof_any re im)
  generalize cen re = a at *
  generalize cen im = b at *
  generalize valB re im = v at *
  go_enter Tryz.func54, Tryz.ntmps54
  go_wp2_with fail
  have hb := Blk.new w 42 #[.int .i64 re, .int .i64 im]
  have hf := (Fr.refl w.heap.size [] w).alloc (Nat.le_refl _) (.cells #[.int .i64 re, .int .i64 im] 42)
  generalize w.alloc _ = w1 at *
  have INV : RowKit.Hid (Blk w1 w.heap.size 42 #[.int .i64 re, .int .i64 im] ∧ Fr w.heap.size [] w w1) := ⟨hb, hf⟩
  have INV : RowKit.Hid (Blk w1.drew w.heap.size 42 #[.int .i64 re, .int .i64 im] ∧ Fr w.heap.size [] w w1.drew) := ⟨INV.out.1.drew, INV.out.2.drew⟩
  clear hb hf
  go_region_held3 (fun wx => wx.cell? ⟨w.heap.size, 0, none⟩ = some (.int .i64 re) ∧ wx.cell? ⟨w.heap.size, 1, none⟩ = some (.int .i64 im)) (exact ⟨INV.out.1.cell 0, INV.out.1.cell 1⟩)
    ((go_at_call 90; refine (HO.out _).mono ?_; rintro e w' ⟨rfl, hf⟩; have INV : RowKit.Hid (Blk w' w.heap.size 42 #[.int .i64 re, .int .i64 im] ∧ Fr w.heap.size [] w w') := ⟨INV.out.1.fr hf INV.out.1.lt (by simp), INV.out.2.trans (hf.mono INV.out.2.size (by simp))⟩; clear hf))
  all_goals
    go_wp2_with fail
    go_ret
    exact ⟨rfl, INV.out.2⟩
theorem cthere_any (k : Int) (w : World) : Calls Tryz.prog 53 #[.int .i64 0, .int .i64 k] w fun e w' => e = .returned (.bool (decide (0 ≤ k ∧ k < 64))) ∧ w = w' := by
  by_cases h1 : 0 ≤ k
  · by_cases h2 : k < 64
    · have hv : decide (0 ≤ k ∧ k < 64) = true := by simp; omega
      rw [hv]
      clear hv
      go_enter Tryz.func53, Tryz.ntmps53
      go_wp2_with fail
      go_ret
      exact ⟨rfl, rfl⟩
    · have hv : decide (0 ≤ k ∧ k < 64) = false := by simp; omega
      rw [hv]
      clear hv
      go_enter Tryz.func53, Tryz.ntmps53
      go_wp2_with fail
      go_ret
      exact ⟨rfl, rfl⟩
  · have hv : decide (0 ≤ k ∧ k < 64) = false := by simp; omega
    rw [hv]
    clear hv
    go_enter Tryz.func53, Tryz.ntmps53
    go_wp2_with fail
    go_ret
    exact ⟨rfl, rfl⟩
set_option maxRecDepth 100000 in
theorem cellright_any (k re im : Int) (w : World) : Calls Tryz.prog 57 #[.agg #[.int .i64 k, .int .i64 re, .int .i64 im]] w fun e w' => e = .returned (.bool (recB k re im)) ∧ Fr w.heap.size [] w w' := by
  have HO := Lib.hid (gright_any re im)
  have HT := Lib.hid (cthere_any k)
  rcases Bool.eq_false_or_eq_true (decide (0 ≤ k ∧ k < 64)) with hk | hk
  · have hv : recB k re im = valB re im := by unfold recB; rw [hk]; rfl
    rw [hv]
    rw [hk] at HT
    clear hv hk
    go_enter Tryz.func57, Tryz.ntmps57
    go_wp2_with fail
    refine (HT.out _).mono ?_
    rintro e w1 ⟨rfl, rfl⟩
    go_wp2_with fail
    refine (HO.out _).mono ?_
    rintro e w1 ⟨rfl, hf⟩
    have HF := Lib.hid hf
    clear hf
    go_wp2_with fail
    go_ret
    exact ⟨rfl, ((Fr.refl _ _ _).alloc (Nat.le_refl _) _).trans (HF.out.mono (by simp) (by simp))⟩
  · have hv : recB k re im = false := by unfold recB; rw [hk]; rfl
    rw [hv]
    rw [hk] at HT
    clear hv hk
    go_enter Tryz.func57, Tryz.ntmps57
    go_wp2_with fail
    refine (HT.out _).mono ?_
    rintro e w1 ⟨rfl, rfl⟩
    go_wp2_with fail
    go_ret
    exact ⟨rfl, (Fr.refl _ _ _).alloc (Nat.le_refl _) _⟩
end Go.Proofs.YthfibggbipkmfaaGreat
namespace Go.Proofs.YthfibggbipkmfaaGreat
open Go.RowKit Go.Fb
/-- The cells of a line. -/
def lnC (x : Nat → Int) : List Value := [.int .i64 (x 0), .int .i64 (x 1), .int .i64 (x 2), .int .i64 (x 3), .int .i64 (x 4)]
abbrev lnA (x : Nat → Int) : Array Value := #[.int .i64 (x 0), .int .i64 (x 1), .int .i64 (x 2), .int .i64 (x 3), .int .i64 (x 4)]
def cellsLn (l : List (Nat → Int)) : List Value := l.flatMap lnC
theorem cellsLn_app (a b : List (Nat → Int)) : cellsLn (a ++ b) = cellsLn a ++ cellsLn b := by simp [cellsLn]
theorem cellsLn_length (l : List (Nat → Int)) : (cellsLn l).length = l.length * 5 := by
  unfold cellsLn
  induction l with
  | nil => rfl
  | cons x l ih => rw [List.flatMap_cons, List.length_append, ih]; simp [lnC]; omega
theorem lnC_get (x : Nat → Int) : ∀ j, j < 5 → (lnC x)[j]? = some (.int .i64 (x j))
  | 0, _ => rfl
  | 1, _ => rfl
  | 2, _ => rfl
  | 3, _ => rfl
  | 4, _ => rfl
  | j + 5, h => by omega
theorem cellsLn_get : ∀ {l : List (Nat → Int)} {k : Nat} {x : Nat → Int}, l[k]? = some x → ∀ j, j < 5 → (cellsLn l)[k * 5 + j]? = some (.int .i64 (x j))
  | [], k, x, h, _, _ => by simp at h
  | y :: l, 0, x, h, j, hj => by
    simp at h
    subst h
    rw [cellsLn, List.flatMap_cons, Nat.zero_mul, Nat.zero_add, List.getElem?_append_left (by simp [lnC]; omega)]
    exact lnC_get y j hj
  | y :: l, k + 1, x, h, j, hj => by
    rw [cellsLn, List.flatMap_cons, List.getElem?_append_right (by simp [lnC]; omega)]
    have ih := cellsLn_get (l := l) (k := k) (x := x) (by simpa using h) j hj
    have e : (k + 1) * 5 + j - (lnC y).length = k * 5 + j := by simp [lnC]; omega
    rw [e]
    exact ih
theorem reads_ln {w : World} {B : Nat} {A : Option Addr} {l : List (Nat → Int)} (h : Reads w B 5 A l.length (cellsLn l)) {k : Nat} {x : Nat → Int} (hx : l[k]? = some x) :
    ∃ b off, A = some ⟨b, off, none⟩ ∧ b < B ∧ ∀ j, j < 5 → w.cell? ⟨b, off + (k * 5 + j), none⟩ = some (.int .i64 (x j)) := by
  have hk : k < l.length := by
    rcases Nat.lt_or_ge k l.length with h | h
    · exact h
    · rw [List.getElem?_eq_none h] at hx; cases hx
  obtain ⟨b, off, e, hb, hc⟩ := h.2 (by omega)
  exact ⟨b, off, e, hb, fun j hj => hc _ _ (cellsLn_get hx j hj)⟩
theorem lnC_one {l : List (Nat → Int)} : ∀ u ∈ cellsLn l, u.oneCell' = true := by
  intro u hu
  obtain ⟨x, _, hx⟩ := List.mem_flatMap.1 hu
  simp only [lnC, List.mem_cons, List.not_mem_nil, or_false] at hx
  rcases hx with rfl | rfl | rfl | rfl | rfl <;> rfl
theorem lineTy : SliceTy Tryz.prog 37 44 5 40 := SliceTy.mk' (z := .agg #[.int .i64 0, .int .i64 0, .int .i64 0, .int .i64 0, .int .i64 0]) Tryz.underlying37 (by kernel_rfl) rfl (by omega)
end Go.Proofs.YthfibggbipkmfaaGreat
namespace Go.Proofs.YthfibggbipkmfaaGreat
open Go.RowKit Go.Fb
/-- A place, and its value. -/
abbrev Pl : Type := Int × Int × Int
abbrev plV (p : Pl) : Value := .agg #[.int .i64 p.1, .int .i64 p.2.1, .int .i64 p.2.2]
theorem pl_beq (x y : Pl) : (x.1 == y.1 && x.2.1 == y.2.1 && x.2.2 == y.2.2) = decide (x = y) := by
  obtain ⟨a, b, c⟩ := x
  obtain ⟨a', b', c'⟩ := y
  rw [Bool.eq_iff_iff]
  simp [and_assoc]
set_option maxRecDepth 100000 in
theorem pl_eq (x y : Pl) (w : World) : (Op.equal 117 (plV x) (plV y)).run Tryz.prog w = .ok (decide (x = y)) w := by
  have h : (Op.equalIn 10000 117 (plV x) (plV y)).run Tryz.prog w = .ok (x.1 == y.1 && x.2.1 == y.2.1 && x.2.2 == y.2.2) w := by
    rw [run_equalIn_struct w 9999 117 _ _ (by kernel_rfl) (by kernel_rfl)]
    simp only [Program.fieldsOf, Tryz.underlying117]
    by_cases h1 : x.1 = y.1
    · by_cases h2 : x.2.1 = y.2.1
      · by_cases h3 : x.2.2 = y.2.2 <;> simp [Op.eqFields, part, isAgg, run_underlying Tryz.underlying3, run_equalIn_int w 9998 3 .i64 .i64 _ _ Tryz.underlying3, h1, h2, h3]
      · simp [Op.eqFields, part, isAgg, run_underlying Tryz.underlying3, run_equalIn_int w 9998 3 .i64 .i64 _ _ Tryz.underlying3, h1, h2]
    · simp [Op.eqFields, part, isAgg, run_underlying Tryz.underlying3, run_equalIn_int w 9998 3 .i64 .i64 _ _ Tryz.underlying3, h1]
  rw [pl_beq] at h
  simp [Op.equal, Op.maxDepth, h]
theorem pl_check (b : Bool) (x : Pl) (w : World) : (Instr.checkKey b 10000 117 (plV x)).run Tryz.prog w = .ok () w := by
  have hi : ∀ v : Int, (Instr.checkKey b 9999 3 (.int .i64 v)).run Tryz.prog w = .ok () w := fun v => MapKept.run_checkKey (k := .int .i64 v) Tryz.underlying3 (by simp [MapKept.IsKey]) b 9998
  rw [show (10000 : Nat) = 9999 + 1 from rfl]
  unfold Instr.checkKey
  simp [run_underlying Tryz.underlying117, Result.andThen, part, isAgg, run_underlying Tryz.underlying3, hi]
theorem pl_stays (x : Pl) (w : World) : (Instr.keyThatStays (plV x) (plV x)).run Tryz.prog w = .ok (plV x) w := by
  have h : Instr.sameBits 10000 (plV x) (plV x) = true := by
    rw [show (10000 : Nat) = 9998 + 1 + 1 from rfl]
    simp [Instr.sameBits]
  unfold Instr.keyThatStays
  rw [if_pos h]
  rfl
/-- What is kept of a place, and where; the list with a place's value laid anew. -/
def findP (p : Pl) : List (Pl × Value) → Nat → Option (Nat × Value)
  | [], _ => none
  | x :: l, i => if p = x.1 then some (i, x.2) else findP p l (i + 1)
def getP (ps : List (Pl × Value)) (p : Pl) : Value := match findP p ps 0 with
  | none => .slice none 0 0
  | some x => x.2
def putP (ps : List (Pl × Value)) (p : Pl) (v : Value) : List (Pl × Value) := match findP p ps 0 with
  | none => ps ++ [(p, v)]
  | some x => ps.set x.1 (p, v)
theorem findP_some {p : Pl} : ∀ {ps : List (Pl × Value)} {i j : Nat} {v : Value}, findP p ps i = some (j, v) → i ≤ j ∧ ps[j - i]? = some (p, v)
  | [], i, j, v, h => by simp [findP] at h
  | x :: l, i, j, v, h => by
    unfold findP at h
    split at h
    · rename_i hp
      simp only [Option.some.injEq, Prod.mk.injEq] at h
      obtain ⟨rfl, rfl⟩ := h
      subst hp
      exact ⟨Nat.le_refl _, by simp⟩
    · obtain ⟨a, b⟩ := findP_some h
      refine ⟨by omega, ?_⟩
      rw [show j - i = (j - (i + 1)) + 1 by omega, List.getElem?_cons_succ]
      exact b
theorem findP_append {p : Pl} : ∀ {ps qs : List (Pl × Value)} {i : Nat}, findP p (ps ++ qs) i = match findP p ps i with
    | none => findP p qs (i + ps.length)
    | some x => some x
  | [], qs, i => by simp [findP]
  | x :: l, qs, i => by
    rw [List.cons_append, findP, findP]
    split
    · rfl
    · rw [findP_append, List.length_cons]
      rw [show i + 1 + l.length = i + (l.length + 1) by omega]
theorem findP_set {p q : Pl} {v : Value} : ∀ {ps : List (Pl × Value)} {i k : Nat} {u : Value}, ps[k]? = some (p, u) → findP q (ps.set k (p, v)) i = match findP q ps i with
    | none => none
    | some x => some (x.1, if x.1 = i + k then v else x.2)
  | [], i, k, u, h => by simp at h
  | x :: l, i, 0, u, h => by
    simp at h
    subst h
    rw [List.set_cons_zero]
    unfold findP
    by_cases c : q = p
    · rw [if_pos c, if_pos c]
      simp
    · rw [if_neg c, if_neg c]
      cases hf : findP q l (i + 1) with
      | none => rfl
      | some y =>
        have := (findP_some (p := q) (v := y.2) (j := y.1) hf).1
        simp only
        rw [if_neg (by omega)]
  | x :: l, i, k + 1, u, h => by
    rw [List.set_cons_succ]
    unfold findP
    by_cases c : q = x.1
    · rw [if_pos c, if_pos c]
      simp
    · rw [if_neg c, if_neg c, findP_set (i := i + 1) (k := k) (by simpa using h)]
      rw [show i + 1 + k = i + (k + 1) by omega]
theorem getP_put (ps : List (Pl × Value)) (p q : Pl) (v : Value) : getP (putP ps p v) q = if q = p then v else getP ps q := by
  unfold getP putP
  cases hf : findP p ps 0 with
  | none =>
    simp only
    rw [findP_append]
    cases hq : findP q ps 0 with
    | none =>
      simp only [findP]
      by_cases c : q = p
      · rw [if_pos c, if_pos c]
      · rw [if_neg c, if_neg c]
    | some y =>
      have : q ≠ p := by rintro rfl; rw [hf] at hq; cases hq
      simp only
      rw [if_neg this]
  | some x =>
    obtain ⟨_, h2⟩ := findP_some (p := p) (v := x.2) (j := x.1) hf
    rw [Nat.sub_zero] at h2
    simp only
    rw [findP_set h2]
    by_cases c : q = p
    · subst c
      rw [hf]
      simp
    · rw [if_neg c]
      cases hq : findP q ps 0 with
      | none => rfl
      | some y =>
        obtain ⟨_, g2⟩ := findP_some (p := q) (v := y.2) (j := y.1) hq
        rw [Nat.sub_zero] at g2
        simp only
        rw [if_neg]
        intro e
        rw [Nat.zero_add] at e
        rw [e, h2] at g2
        injection g2 with g2
        exact c (congrArg Prod.fst g2).symm
/-- Block r is the map that keeps ps. -/
def PMap (w : World) (r : Nat) (ps : List (Pl × Value)) : Prop :=
  ∃ es clock, w.heap[r]? = some (.map es clock) ∧ (∀ x ∈ es.toList, x.born < clock) ∧ (es.toList.map (·.born)).Nodup ∧ es.toList.map (fun e => (e.key, e.val)) = ps.map (fun x => (plV x.1, x.2))
theorem pl_asking (x : Pl) (w : World) : ∀ (es : List MapEntry) (ps : List (Pl × Value)) (i : Nat), es.map (fun e => (e.key, e.val)) = ps.map (fun y => (plV y.1, y.2)) → (Instr.findAsking 117 (plV x) es i).run Tryz.prog w = .ok (findP x ps i) w
  | [], [], i, _ => by simp [Instr.findAsking, findP]
  | [], _ :: _, _, h => by simp at h
  | _ :: _, [], _, h => by simp at h
  | e :: es, y :: l, i, h => by
    simp only [List.map_cons, List.cons.injEq, Prod.mk.injEq] at h
    obtain ⟨⟨h1, h2⟩, h3⟩ := h
    have ih := pl_asking x w es l (i + 1) h3
    have he := pl_eq x y.1 w
    rw [← h1] at he
    unfold findP
    by_cases hxy : x = y.1
    · rw [decide_eq_true hxy] at he
      rw [if_pos hxy]
      simp [Instr.findAsking, he, Result.andThen, h2]
    · rw [decide_eq_false hxy] at he
      rw [if_neg hxy]
      simp only [Instr.findAsking, Sem.run_bind, he, Result.andThen_ok, Bool.false_eq_true, if_false]
      exact ih
theorem pl_find {w : World} {ps : List (Pl × Value)} (x : Pl) (es : Array MapEntry) (h : es.toList.map (fun e => (e.key, e.val)) = ps.map (fun y => (plV y.1, y.2))) :
    (Instr.findKey 117 (plV x) es.toList).run Tryz.prog w = .ok (findP x ps 0) w := by
  have ha := pl_asking x w es.toList ps 0 h
  cases hl : es.toList with
  | nil =>
    rw [hl] at h
    have : ps = [] := by simpa using h.symm
    subst this
    simp [Instr.findKey, run_underlying Tryz.underlying117, Result.andThen, Instr.findNow, findP]
  | cons e es' =>
    rw [hl] at ha h
    cases ps with
    | nil => simp at h
    | cons y l' =>
      have hk : e.key = plV y.1 := by simp at h; exact h.1.1
      have hn : Instr.findNow (Tryz.prog.underlying 117 |>.getD .bool) (plV x) (e :: es') 0 = none := by
        rw [Tryz.underlying117]
        simp [Instr.findNow, hk, Instr.sameNow]
      have hrun : (Instr.findKey 117 (plV x) (e :: es')).run Tryz.prog w = (Instr.findAsking 117 (plV x) (e :: es') 0).run Tryz.prog w := by
        rw [Tryz.underlying117] at hn
        simp only [Option.getD_some] at hn
        simp [Instr.findKey, run_underlying Tryz.underlying117, Result.andThen, hn]
      rw [hrun]
      exact ha
theorem PMap.lt {w : World} {r : Nat} {ps : List (Pl × Value)} (h : PMap w r ps) : r < w.heap.size := by
  obtain ⟨es, clock, hb, _⟩ := h
  rcases Nat.lt_or_ge r w.heap.size with h | h
  · exact h
  · rw [Array.getElem?_eq_none h] at hb; cases hb
theorem PMap.new (w : World) : PMap (w.alloc (.map #[] 0)) w.heap.size [] := ⟨#[], 0, heap_alloc_new w _, by simp, by simp, rfl⟩
theorem PMap.fr {w w' : World} {r B : Nat} {L : List Nat} {ps : List (Pl × Value)} (h : PMap w r ps) (hf : Fr B L w w') (h1 : r < B) (h2 : r ∉ L) : PMap w' r ps := by
  obtain ⟨es, clock, hb, he⟩ := h
  exact ⟨es, clock, (hf.block r h1 h2).trans hb, he⟩
theorem PMap.ne {w : World} {r g t : Nat} {ps : List (Pl × Value)} {cs : Array Value} (h : PMap w r ps) (hb : Blk w g t cs) : r ≠ g := by
  rintro rfl
  obtain ⟨es, clock, h1, _⟩ := h
  unfold Blk at hb
  rw [h1] at hb
  cases hb
theorem PMap.ne_own {w : World} {r : Nat} {ps : List (Pl × Value)} {base e size n : Nat} {v : Value} {xs : List Value} (h : PMap w r ps) (ho : w.ownsRow base e size v n xs) : some r ≠ v.ownBlock := by
  intro he
  rcases ho.2 with ⟨rfl, _⟩ | ⟨g', cap, cur, rfl, _, hgg, _⟩
  · cases he
  · have he' : r = g' := by simpa [Value.ownBlock] using he
    subst he'
    obtain ⟨es, clock, h1, _⟩ := h
    rw [h1] at hgg
    cases hgg
theorem PMap.look {w : World} {r : Nat} {ps : List (Pl × Value)} (h : PMap w r ps) (x : Pl) : (Instr.lookup 114 (.map (some r)) (plV x) false).run Tryz.prog w = .ok (getP ps x) w := by
  obtain ⟨es, clock, hb, _, _, he⟩ := h
  have hc := fun b => pl_check b x w
  have hz : (zeroValue 118).run Tryz.prog w = .ok (.slice none 0 0) w := by kernel_rfl
  have hf := pl_find (w := w) x es he
  unfold getP
  cases hm : findP x ps 0 with
  | none =>
    rw [hm] at hf
    simp [Instr.lookup, run_underlying Tryz.underlying114, MapKept.run_getObj_map hb, hc, hf, hz, Result.andThen]
  | some y =>
    rw [hm] at hf
    simp [Instr.lookup, run_underlying Tryz.underlying114, MapKept.run_getObj_map hb, hc, hf, Result.andThen]
/-- The world with one block laid anew. -/
def setB (w : World) (r : Nat) (o : Obj) : World := { w with heap := w.heap.setIfInBounds r o }
theorem setB_fr (w : World) (r : Nat) (o : Obj) : Fr w.heap.size [r] w (setB w r o) :=
  ⟨rfl, rfl, rfl, by simp [setB], fun k _ hk => by
    have : r ≠ k := fun h => hk (by simp [h])
    simp [setB, this]⟩
theorem setB_new {w : World} {r : Nat} (h : r < w.heap.size) (o : Obj) : (setB w r o).heap[r]? = some o := by simp [setB, h]
theorem setB_size (w : World) (r : Nat) (o : Obj) : (setB w r o).heap.size = w.heap.size := by simp [setB]
/-- m[p] = f(m[p]): what is got, and what the store makes, whatever lies between. -/
theorem PMap.entry {w : World} {r : Nat} {ps : List (Pl × Value)} (h : PMap w r ps) (x : Pl) :
    ∃ (st : Int) (w1 : World), (Instr.mapEntry 114 (.map (some r)) (plV x)).run Tryz.prog w = .ok (.tuple #[getP ps x, .int .i64 st]) w1 ∧ Fr w.heap.size [r] w w1 ∧ w1.heap.size = w.heap.size ∧
      ∀ (w2 : World) (v : Value), w2.heap[r]? = w1.heap[r]? → ∃ w3, (Instr.entryStore 114 (.map (some r)) (.int .i64 st) v).run Tryz.prog w2 = .ok () w3 ∧ PMap w3 r (putP ps x v) ∧ Fr w2.heap.size [r] w2 w3 ∧ w3.heap.size = w2.heap.size := by
  have hlt := h.lt
  obtain ⟨es, clock, hb, h1, h2, he⟩ := h
  have hc := fun b => pl_check b x w
  have hz : ∀ u, (zeroValue 118).run Tryz.prog u = .ok (.slice none 0 0) u := fun u => by kernel_rfl
  have hf := pl_find (w := w) x es he
  have hlen : es.toList.length = ps.length := by have := congrArg List.length he; simpa using this
  unfold getP putP
  cases hm : findP x ps 0 with
  | none =>
    rw [hm] at hf
    refine ⟨clock, setB w r (.map (es.push { key := plV x, val := .slice none 0 0, born := clock }) (clock + 1)), ?_, setB_fr _ _ _, setB_size _ _ _, fun w2 v hw2 => ?_⟩
    · simp [Instr.mapEntry, run_underlying Tryz.underlying114, MapKept.run_getObj_map hb, hc, hf, hz, MapKept.run_setObj_map _ hb, Result.andThen, setB, goInt]
    · rw [setB_new hlt] at hw2
      have hlt2 : r < w2.heap.size := by
        rcases Nat.lt_or_ge r w2.heap.size with h | h
        · exact h
        · rw [Array.getElem?_eq_none h] at hw2; cases hw2
      have hidx : (es.push ⟨plV x, .slice none 0 0, clock⟩).findIdx? (fun e => ((e.born : Nat) : Int) == ((clock : Nat) : Int)) = some es.size := by
        rw [Go.WideElems.findIdx_arr]
        have := Go.WideElems.findIdx_born (l := (es.push ⟨plV x, .slice none 0 0, clock⟩).toList) (j := es.size) (e0 := ⟨plV x, .slice none 0 0, clock⟩) (by
          simp only [Array.toList_push, List.map_append, List.map_cons, List.map_nil]
          refine List.nodup_append.2 ⟨h2, by simp, fun a ha c hc e1 => ?_⟩
          simp only [List.mem_singleton] at hc
          obtain ⟨y, hy, rfl⟩ := List.mem_map.1 ha
          have := h1 y hy
          omega) (by simp)
        exact this
      have hmod : (es.push ⟨plV x, .slice none 0 0, clock⟩).modify es.size (fun e => { e with val := v }) = es.push ⟨plV x, v, clock⟩ := by
        apply Array.ext'
        rw [Array.toList_modify, Array.toList_push, Array.toList_push, ← Array.length_toList, Go.WideElems.modify_last]
      refine ⟨setB w2 r (.map (es.push ⟨plV x, v, clock⟩) (clock + 1)), ?_, ⟨_, _, setB_new hlt2 _, ?_, ?_, ?_⟩, setB_fr _ _ _, setB_size _ _ _⟩
      · simp [Instr.entryStore, MapKept.run_getObj_map hw2, asInt, asIntOf, hidx, hmod, MapKept.run_setObj_map _ hw2, Result.andThen, setB]
      · intro y hy
        rw [Array.toList_push, List.mem_append, List.mem_singleton] at hy
        rcases hy with hy | rfl
        · have := h1 y hy; omega
        · show clock < clock + 1; omega
      · rw [Array.toList_push, List.map_append]
        refine List.nodup_append.2 ⟨h2, by simp, fun a ha c hc e1 => ?_⟩
        simp at hc
        obtain ⟨y, hy, rfl⟩ := List.mem_map.1 ha
        have := h1 y hy
        omega
      · rw [Array.toList_push, List.map_append, List.map_append, he]
        rfl
  | some y =>
    rw [hm] at hf
    obtain ⟨_, g2⟩ := findP_some (p := x) (v := y.2) (j := y.1) hm
    rw [Nat.sub_zero] at g2
    have hjl : y.1 < es.toList.length := by
      rw [hlen]
      rcases Nat.lt_or_ge y.1 ps.length with h | h
      · exact h
      · rw [List.getElem?_eq_none h] at g2; cases g2
    obtain ⟨e0, he0⟩ : ∃ e0, es.toList[y.1]? = some e0 := ⟨_, List.getElem?_eq_getElem hjl⟩
    have hkv : (e0.key, e0.val) = (plV x, y.2) := by
      have a : (es.toList.map (fun e => (e.key, e.val)))[y.1]? = some (e0.key, e0.val) := by rw [List.getElem?_map, he0]; rfl
      rw [he, List.getElem?_map, g2] at a
      simpa using a.symm
    have hk0 : e0.key = plV x := congrArg Prod.fst hkv
    have hj : es[y.1]? = some e0 := by simpa using he0
    have hsame : es.modify y.1 (fun e => { e with key := plV x }) = es := by
      apply Array.ext'
      rw [Array.toList_modify, Go.ChangeMaps.modify_eq_set _ _ _ _ he0]
      have : ({ e0 with key := plV x } : MapEntry) = e0 := by rw [← hk0]
      rw [this]
      exact Go.WideElems.set_self _ _ _ he0
    refine ⟨e0.born, setB w r (.map es clock), ?_, setB_fr _ _ _, setB_size _ _ _, fun w2 v hw2 => ?_⟩
    · simp [Instr.mapEntry, run_underlying Tryz.underlying114, MapKept.run_getObj_map hb, hc, hf, hj, hk0, pl_stays, hsame, MapKept.run_setObj_map _ hb, Result.andThen, setB, goInt]
    · rw [setB_new hlt] at hw2
      have hlt2 : r < w2.heap.size := by
        rcases Nat.lt_or_ge r w2.heap.size with h | h
        · exact h
        · rw [Array.getElem?_eq_none h] at hw2; cases hw2
      have hidx : es.findIdx? (fun e => ((e.born : Nat) : Int) == ((e0.born : Nat) : Int)) = some y.1 := by
        rw [Go.WideElems.findIdx_arr]
        exact Go.WideElems.findIdx_born h2 he0
      have hml : (es.modify y.1 (fun e => { e with val := v })).toList = es.toList.set y.1 { e0 with val := v } := by
        rw [Array.toList_modify, Go.ChangeMaps.modify_eq_set _ _ _ _ he0]
      refine ⟨setB w2 r (.map (es.modify y.1 (fun e => { e with val := v })) clock), ?_, ⟨_, _, setB_new hlt2 _, ?_, ?_, ?_⟩, setB_fr _ _ _, setB_size _ _ _⟩
      · simp [Instr.entryStore, MapKept.run_getObj_map hw2, asInt, asIntOf, hidx, MapKept.run_setObj_map _ hw2, Result.andThen, setB]
      · intro z hz
        rw [hml] at hz
        rcases List.mem_or_eq_of_mem_set hz with hz | rfl
        · exact h1 z hz
        · exact h1 e0 (List.mem_of_getElem? he0)
      · rw [hml, List.map_set]
        show (List.set _ y.1 e0.born).Nodup
        rw [Go.WideElems.set_self _ _ _ (by rw [List.getElem?_map, he0]; rfl)]
        exact h2
      · rw [hml, List.map_set, List.map_set, he, hk0]
end Go.Proofs.YthfibggbipkmfaaGreat
namespace Go.Proofs.YthfibggbipkmfaaGreat
open Go.RowKit Go.Fb
set_option maxRecDepth 100000 in
theorem line_one_eq (a b k re im : Int) (w : World) : (Op.equalIn 10000 44 (.agg #[.int .i64 a, .int .i64 b, .int .i64 k, .int .i64 re, .int .i64 im]) (.agg #[.int .i64 a, .int .i64 b, .int .i64 k, .int .i64 re, .int .i64 im])).run Tryz.prog w = .ok true w := by
  rw [run_equalIn_struct w 9999 44 _ _ (by kernel_rfl) (by kernel_rfl)]
  have hsO : ∀ w, (sizeOf 42).run Tryz.prog w = .ok 2 w := fun w => by kernel_rfl
  have p0 : ∀ w, (part 3 #[.int .i64 a, .int .i64 b, .int .i64 k, .int .i64 re, .int .i64 im] 0).run Tryz.prog w = .ok (.int .i64 a) w := fun w => by
    simp [part, isAgg, run_underlying Tryz.underlying3]
  have p1 : ∀ w, (part 3 #[.int .i64 a, .int .i64 b, .int .i64 k, .int .i64 re, .int .i64 im] 1).run Tryz.prog w = .ok (.int .i64 b) w := fun w => by
    simp [part, isAgg, run_underlying Tryz.underlying3]
  have p2 : ∀ w, (part 3 #[.int .i64 a, .int .i64 b, .int .i64 k, .int .i64 re, .int .i64 im] 2).run Tryz.prog w = .ok (.int .i64 k) w := fun w => by
    simp [part, isAgg, run_underlying Tryz.underlying3]
  have p3 : ∀ w, (part 42 #[.int .i64 a, .int .i64 b, .int .i64 k, .int .i64 re, .int .i64 im] 3).run Tryz.prog w = .ok (.agg #[.int .i64 re, .int .i64 im]) w := fun w => by
    simp [part, isAgg, run_underlying Tryz.underlying42, hsO]
  have e0 := run_equalIn_int w 9998 3 .i64 .i64 a a Tryz.underlying3
  have e1 := run_equalIn_int w 9998 3 .i64 .i64 b b Tryz.underlying3
  have e2 := run_equalIn_int w 9998 3 .i64 .i64 k k Tryz.underlying3
  have e3 : (Op.equalIn 9999 42 (.agg #[.int .i64 re, .int .i64 im]) (.agg #[.int .i64 re, .int .i64 im])).run Tryz.prog w = .ok true w := by
    rw [run_equalIn_struct w 9998 42 _ _ (by kernel_rfl) (by kernel_rfl)]
    simp [Program.fieldsOf, Tryz.underlying42]
    simp [Op.eqFields, part, isAgg, run_underlying Tryz.underlying3, run_equalIn_int w 9997 3 .i64 .i64 _ _ Tryz.underlying3]
  simp [Program.fieldsOf, Tryz.underlying44, Op.eqFields, p0, p1, p2, p3, e0, e1, e2, e3]
theorem line_one_neq (a b k re im : Int) (w : World) : (binOp .neq 44 (.agg #[.int .i64 a, .int .i64 b, .int .i64 k, .int .i64 re, .int .i64 im]) (.agg #[.int .i64 a, .int .i64 b, .int .i64 k, .int .i64 re, .int .i64 im])).run Tryz.prog w = .ok (.bool false) w := by
  simp [binOp, Op.equal, Op.maxDepth, line_one_eq]
set_option maxRecDepth 100000 in
theorem lines_yes {B1 B2 : Nat} {A1 A2 : Option Addr} {c1 c2 n : Nat} {l : List (Nat → Int)} {w : World} (hn : n = l.length) (h1 : Reads w B1 5 A1 n (cellsLn l)) (h2 : Reads w B2 5 A2 n (cellsLn l)) (_hl : n ≤ 6000000000) :
    Calls Tryz.prog 21 #[.slice A1 n c1, .slice A2 n c2] w fun e w' => e = .returned (.bool true) ∧ Fr w.heap.size [] w w' := by
  have H1 := Lib.hid h1
  have H2 := Lib.hid h2
  have HX := Lib.hid (fun (k : Nat) (hk : k < l.length) => (⟨l[k], List.getElem?_eq_getElem hk⟩ : ∃ x, l[k]? = some x))
  have HN := Lib.hid hn
  clear h1 h2 hn
  go_enter Tryz.func21, Tryz.ntmps21
  go_wp2_with fail
  go_loopw [5] (fun i wr => ∃ (k m : Nat), k ≤ n ∧ i = .int .i64 k ∧ wr = w.drewN m) (fun i _ => n - (intOf i).toNat)
  case atStart => exact ⟨0, 0, by omega, rfl, rfl⟩
  case round =>
    obtain ⟨k, m, hk, rfl, rfl⟩ := hrel
    by_cases hkn : k < n
    · obtain ⟨x, hx⟩ := HX.out k (by rw [← HN.out]; exact hkn)
      obtain ⟨b1, o1, rfl, hb1, hc1⟩ := reads_ln (by rw [← HN.out]; exact H1.out) hx
      obtain ⟨b2, o2, rfl, hb2, hc2⟩ := reads_ln (by rw [← HN.out]; exact H2.out) hx
      have p0 := hc1 0 (by omega)
      have p1 := hc1 1 (by omega)
      have p2 := hc1 2 (by omega)
      have p3 := hc1 3 (by omega)
      have p4 := hc1 4 (by omega)
      have q0 := hc2 0 (by omega)
      have q1 := hc2 1 (by omega)
      have q2 := hc2 2 (by omega)
      have q3 := hc2 3 (by omega)
      have q4 := hc2 4 (by omega)
      simp only [Nat.add_zero, ← Nat.add_assoc] at p0 p1 p2 p3 p4 q0 q1 q2 q3 q4
      have hki : (k : Int) < (n : Int) := by omega
      have hnq := fun w => line_one_neq (x 0) (x 1) (x 2) (x 3) (x 4) w
      clear hc1 hc2 hx
      go_wp2_with fail
      go_quiet (fail)
      go_wp2_with fail
      go_roundw
      case rel => exact ⟨k + 1, _, by omega, by go_num, rfl⟩
      case measure => simp [intOf]; omega
    · obtain rfl : k = n := by omega
      go_wp2_with fail
      go_ret
      exact ⟨rfl, (Fr.refl _ _ _).drewN _⟩
end Go.Proofs.YthfibggbipkmfaaGreat
namespace Go.Proofs.YthfibggbipkmfaaGreat
open Go.RowKit Go.Fb
/-- The values of one place. -/
def keyL (x : Nat → Int) : Pl := (x 0, x 1, x 2)
def onlyV (l : List (Nat → Int)) (p : Pl) : List (Int × Int) := (l.filter (fun x => decide (keyL x = p))).map (fun x => (x 3, x 4))
def valC (x : Int × Int) : List Value := [.int .i64 x.1, .int .i64 x.2]
def cellsV (l : List (Int × Int)) : List Value := l.flatMap valC
theorem cellsV_app (a b : List (Int × Int)) : cellsV (a ++ b) = cellsV a ++ cellsV b := by simp [cellsV]
theorem cellsV_length (l : List (Int × Int)) : (cellsV l).length = l.length * 2 := by
  unfold cellsV
  induction l with
  | nil => rfl
  | cons x l ih => rw [List.flatMap_cons, List.length_append, ih]; simp [valC]; omega
theorem cellsV_get : ∀ {l : List (Int × Int)} {k : Nat} {x : Int × Int}, l[k]? = some x → (cellsV l)[k * 2]? = some (.int .i64 x.1) ∧ (cellsV l)[k * 2 + 1]? = some (.int .i64 x.2)
  | [], k, x, h => by simp at h
  | y :: l, 0, x, h => by simp at h; subst h; exact ⟨rfl, rfl⟩
  | y :: l, k + 1, x, h => by
    obtain ⟨a, b⟩ := cellsV_get (l := l) (k := k) (x := x) (by simpa using h)
    have e : ∀ j, (cellsV (y :: l))[2 + j]? = (cellsV l)[j]? := fun j => by
      rw [cellsV, List.flatMap_cons, List.getElem?_append_right (by simp [valC])]
      congr 1
      simp [valC]
    rw [show (k + 1) * 2 = 2 + k * 2 by omega, e, Nat.add_assoc, e]
    exact ⟨a, b⟩
theorem reads_val {w : World} {B : Nat} {A : Option Addr} {l : List (Int × Int)} (h : Reads w B 2 A l.length (cellsV l)) {k : Nat} {x : Int × Int} (hx : l[k]? = some x) :
    ∃ b off, A = some ⟨b, off, none⟩ ∧ b < B ∧ w.cell? ⟨b, off + k * 2, none⟩ = some (.int .i64 x.1) ∧ w.cell? ⟨b, off + k * 2 + 1, none⟩ = some (.int .i64 x.2) := by
  have hk : k < l.length := by
    rcases Nat.lt_or_ge k l.length with h | h
    · exact h
    · rw [List.getElem?_eq_none h] at hx; cases hx
  obtain ⟨b, off, e, hb, hc⟩ := h.2 (by omega)
  obtain ⟨c1, c2⟩ := cellsV_get hx
  exact ⟨b, off, e, hb, hc _ _ c1, by rw [Nat.add_assoc]; exact hc _ _ c2⟩
theorem valTy : SliceTy Tryz.prog 118 42 2 16 := SliceTy.mk' (z := .agg #[.int .i64 0, .int .i64 0]) Tryz.underlying118 (by kernel_rfl) rfl (by omega)
theorem onlyV_snoc (l : List (Nat → Int)) (x : Nat → Int) (p : Pl) : onlyV (l ++ [x]) p = if p = keyL x then onlyV l p ++ [(x 3, x 4)] else onlyV l p := by
  unfold onlyV
  rw [List.filter_append, List.map_append]
  by_cases c : keyL x = p
  · rw [if_pos c.symm]
    simp [c]
  · rw [if_neg (fun h => c h.symm)]
    simp [c]
theorem onlyV_le (l : List (Nat → Int)) (p : Pl) : (onlyV l p).length ≤ l.length := by
  unfold onlyV
  rw [List.length_map]
  exact List.length_filter_le _ _
theorem findP_no {p : Pl} : ∀ {ps : List (Pl × Value)} {i : Nat}, findP p ps i = none → p ∉ ps.map (·.1)
  | [], _, _ => by simp
  | x :: l, i, h => by
    unfold findP at h
    split at h
    · cases h
    · rename_i hp
      rw [List.map_cons, List.mem_cons]
      rintro (e | e)
      · exact hp e
      · exact findP_no h e
theorem putP_nd {ps : List (Pl × Value)} (h : (ps.map (·.1)).Nodup) (p : Pl) (v : Value) : ((putP ps p v).map (·.1)).Nodup := by
  unfold putP
  cases hf : findP p ps 0 with
  | none =>
    simp only
    rw [List.map_append]
    refine List.nodup_append.2 ⟨h, by simp, fun a ha b hb e => ?_⟩
    simp at hb
    subst hb
    subst e
    exact findP_no hf ha
  | some x =>
    obtain ⟨_, g2⟩ := findP_some (p := p) (v := x.2) (j := x.1) hf
    rw [Nat.sub_zero] at g2
    simp only
    rw [List.map_set]
    have : (ps.map (·.1)).set x.1 p = ps.map (·.1) := Go.WideElems.set_self _ _ _ (by rw [List.getElem?_map, g2]; rfl)
    rw [this]
    exact h
theorem getP_mem {ps : List (Pl × Value)} (h : (ps.map (·.1)).Nodup) {p : Pl} {v : Value} (hm : (p, v) ∈ ps) : getP ps p = v := by
  unfold getP
  cases hf : findP p ps 0 with
  | none => exact absurd (List.mem_map.2 ⟨(p, v), hm, rfl⟩) (findP_no hf)
  | some x =>
    obtain ⟨_, g2⟩ := findP_some (p := p) (v := x.2) (j := x.1) hf
    rw [Nat.sub_zero] at g2
    obtain ⟨j, hj⟩ := List.getElem?_of_mem hm
    have e1 : (ps.map (·.1))[x.1]? = some p := by rw [List.getElem?_map, g2]; rfl
    have e2 : (ps.map (·.1))[j]? = some p := by rw [List.getElem?_map, hj]; rfl
    have hlt : x.1 < (ps.map (·.1)).length := (List.getElem?_eq_some_iff.1 e1).1
    have := (List.getElem?_inj hlt h).1 (e1.trans e2.symm)
    subst this
    rw [g2] at hj
    injection hj with hj
    exact congrArg Prod.snd hj
/-- A map that keeps of each place its values. -/
structure BM (base gm : Nat) (l : List (Nat → Int)) (ps : List (Pl × Value)) (w : World) : Prop where
  mp : PMap w gm ps
  own : ∀ p, w.ownsRow base 42 2 (getP ps p) (onlyV l p).length (cellsV (onlyV l p))
  dis : ∀ p q b, p ≠ q → (getP ps p).ownBlock = some b → (getP ps q).ownBlock ≠ some b
  nd : (ps.map (·.1)).Nodup
theorem BM.new (w : World) : BM w.heap.size w.heap.size [] [] (w.alloc (.map #[] 0)) :=
  ⟨PMap.new w, fun _ => World.ownsRow_nil _ _ _ _, fun _ _ b _ h => by simp [getP, findP, Value.ownBlock] at h, by simp⟩
theorem BM.keep {base gm : Nat} {l : List (Nat → Int)} {ps : List (Pl × Value)} {w w' : World} (h : BM base gm l ps w) (hf : Fr w.heap.size [] w w') : BM base gm l ps w' :=
  ⟨h.mp.fr hf h.mp.lt (by simp), fun p => ownsRow_fr (h.own p) hf (fun q hq => ⟨((h.own p).lt q hq).2, by simp⟩), h.dis, h.nd⟩
/-- What the store of a longer list makes. -/
theorem BM.step {base gm : Nat} {l : List (Nat → Int)} {ps : List (Pl × Value)} {w w1 w2 w3 : World} {x : Nat → Int} {v : Value} (h : BM base gm l ps w)
    (f1 : Fr w.heap.size [gm] w w1) (hg : w1.grownBy w2 (getP ps (keyL x)).ownBlock) (hown : w2.ownsRow base 42 2 v ((onlyV l (keyL x)).length + 1) (cellsV (onlyV l (keyL x)) ++ valC (x 3, x 4)))
    (hat : v.ownBlock = (getP ps (keyL x)).ownBlock ∨ v.ownBlock = some w1.heap.size) (f3 : Fr w2.heap.size [gm] w2 w3) (hmp : PMap w3 gm (putP ps (keyL x) v)) : BM base gm (l ++ [x]) (putP ps (keyL x) v) w3 := by
  have hne : ∀ p, some gm ≠ (getP ps p).ownBlock := fun p => h.mp.ne_own (h.own p)
  have hgs := f1.size
  have hltg := h.mp.lt
  have hvne : v.ownBlock ≠ some gm := by
    rcases hat with hat | hat
    · rw [hat]; exact fun e => hne _ e.symm
    · rw [hat]; intro e; injection e with e; omega
  refine ⟨hmp, fun p => ?_, fun p q b hpq hp hq => ?_, putP_nd h.nd _ _⟩
  · rw [getP_put, onlyV_snoc]
    by_cases c : p = keyL x
    · subst c
      rw [if_pos rfl, if_pos rfl, List.length_append, cellsV_app]
      refine ownsRow_fr (n := (onlyV l (keyL x)).length + 1) ?_ f3 (fun q hq => ⟨(hown.lt q hq).2, ?_⟩)
      · have : cellsV [(x 3, x 4)] = valC (x 3, x 4) := by simp [cellsV]
        rw [this]; exact hown
      · simp only [List.mem_singleton]
        rintro rfl
        exact hvne hq
    · rw [if_neg c, if_neg c]
      have o1 := ownsRow_fr (h.own p) f1 (fun q hq => ⟨((h.own p).lt q hq).2, by simp only [List.mem_singleton]; rintro rfl; exact hne p hq.symm⟩)
      have o2 := o1.kept hg (by
        cases hv : (getP ps p).ownBlock with
        | none => exact .inl rfl
        | some b => exact .inr (fun e => h.dis p (keyL x) b c hv e.symm))
      exact ownsRow_fr o2 f3 (fun q hq => ⟨(o2.lt q hq).2, by simp only [List.mem_singleton]; rintro rfl; exact hne p hq.symm⟩)
  · rw [getP_put] at hp hq
    by_cases c : p = keyL x
    · rw [if_pos c] at hp
      have c2 : q ≠ keyL x := fun e => hpq (c.trans e.symm)
      rw [if_neg c2] at hq
      rcases hat with hat | hat
      · rw [hat] at hp
        exact h.dis (keyL x) q b (fun e => c2 e.symm) hp hq
      · rw [hat] at hp
        injection hp with hp
        have := ((h.own q).lt b hq).2
        omega
    · rw [if_neg c] at hp
      by_cases c2 : q = keyL x
      · rw [if_pos c2] at hq
        rcases hat with hat | hat
        · rw [hat] at hq
          exact h.dis (keyL x) p b (fun e => c e.symm) hq hp
        · rw [hat] at hq
          injection hq with hq
          have := ((h.own p).lt b hp).2
          omega
      · rw [if_neg c2] at hq
        exact h.dis p q b hpq hp hq
/-- What by leaves. -/
def ByOut (l : List (Nat → Int)) (w : World) (e : Ending) (w' : World) : Prop :=
  ∃ ps, e = .returned (.map (some w.heap.size)) ∧ BM w.heap.size w.heap.size l ps w' ∧ Fr w.heap.size [] w w'
set_option maxRecDepth 100000 in
set_option maxHeartbeats 1000000 in
theorem by_any (A : Option Addr) (c B : Nat) (l : List (Nat → Int)) (w : World) (hr : Reads w B 5 A l.length (cellsLn l)) (hB : B ≤ w.heap.size) (hn : l.length ≤ 1073741000) :
    Calls Tryz.prog 50 #[.slice A l.length c] w (ByOut l w) := by
  have HR := Lib.hid hr
  obtain ⟨n, hnl⟩ : ∃ n, n = l.length := ⟨_, rfl⟩
  have HN := Lib.hid hnl
  rw [← hnl] at hn ⊢
  have hmm := @run_makeMap Tryz.prog
  clear hr hnl
  go_enter Tryz.func50, Tryz.ntmps50
  go_wp2_with fail
  have M0 := Lib.hid (BM.new w)
  have F0 := Lib.hid ((Fr.refl w.heap.size [] w).alloc (Nat.le_refl _) (.map #[] 0))
  clear hmm
  generalize w.alloc (.map #[] 0) = w0 at *
  go_loopg [5, 6, 10] n (fun g s5 s6 s10 wr => ∃ (k : Nat) (ps : List (Pl × Value)), k ≤ n ∧ g = n - k ∧ s10 = .int .i64 k ∧ (s5 = undef ∨ ∃ a, s5 = .pointer a) ∧ (s6 = undef ∨ ∃ a, s6 = .pointer a) ∧ RowKit.Hid (BM w.heap.size w.heap.size (l.take k) ps wr) ∧ RowKit.Hid (Fr w.heap.size [] w wr))
  case atStart => exact ⟨0, [], Nat.zero_le _, rfl, rfl, .inl rfl, .inl rfl, M0, F0⟩
  case round =>
    clear M0 F0
    obtain ⟨k, ps, hk, rfl, rfl, hs5, hs6, M, F⟩ := hrel
    by_cases hkn : k < n
    · have hki : (k : Int) < (n : Int) := by omega
      obtain ⟨x, hx⟩ : ∃ x, l[k]? = some x := ⟨_, List.getElem?_eq_getElem (by rw [← HN.out]; exact hkn)⟩
      obtain ⟨b, off, rfl, hb, hc⟩ := reads_ln (HR.out.fr F.out hB (by simp)) hx
      have p0 := hc 0 (by omega)
      have p1 := hc 1 (by omega)
      have p2 := hc 2 (by omega)
      have p3 := hc 3 (by omega)
      have p4 := hc 4 (by omega)
      simp only [Nat.add_zero, ← Nat.add_assoc] at p0 p1 p2 p3 p4
      have HTK := Lib.hid (show l.take (k + 1) = l.take k ++ [x] by rw [List.take_add_one, hx]; rfl)
      clear hc hx
      go_upto_region 6 with fail
      have BX := Lib.hid ((Blk.new wr 44 (lnA x)).alloc (.cells #[.int .i64 (x 0), .int .i64 (x 1), .int .i64 (x 2)] 117))
      have BP := Lib.hid (Blk.new (wr.alloc (.cells (lnA x) 44)) 117 #[.int .i64 (x 0), .int .i64 (x 1), .int .i64 (x 2)])
      have f2 := ((Fr.refl wr.heap.size [] wr).alloc (Nat.le_refl _) (.cells (lnA x) 44)).alloc (by simp) (.cells #[.int .i64 (x 0), .int .i64 (x 1), .int .i64 (x 2)] 117)
      have M2 := Lib.hid (M.out.keep f2)
      have F2 := Lib.hid (F.out.trans (f2.mono F.out.size (by simp)))
      simp only [lnA, World.size_alloc] at BX BP f2 M2 F2
      clear f2 M F p0 p1 p2 p3 p4
      generalize (wr.alloc _).alloc _ = wa at *
      have x3 := BX.out.cell 3
      have x4 := BX.out.cell 4
      have q0 := BP.out.cell 0
      have q1 := BP.out.cell 1
      have q2 := BP.out.cell 2
      simp at x3 x4 q0 q1 q2
      have M3 := Lib.hid (M2.out.keep ((Fr.refl wa.heap.size [] wa).alloc (Nat.le_refl _) (.cells #[.int .i64 (x 3), .int .i64 (x 4)] 42)))
      have BL := Lib.hid (Blk.new wa 42 #[.int .i64 (x 3), .int .i64 (x 4)])
      have F3 := Lib.hid (F2.out.alloc F2.out.size (.cells #[.int .i64 (x 3), .int .i64 (x 4)] 42))
      obtain ⟨st, wc, hme, f4, hs4, hst⟩ := M3.out.mp.entry (keyL x)
      obtain ⟨v0, hv0⟩ : ∃ v0, v0 = getP ps (keyL x) := ⟨_, rfl⟩
      obtain ⟨m, hm⟩ : ∃ m, m = (onlyV (l.take k) (keyL x)).length := ⟨_, rfl⟩
      have hml : m ≤ 1073741000 := by have := onlyV_le (l.take k) (keyL x); rw [List.length_take] at this; omega
      have own0 := M3.out.own (keyL x)
      rw [← hv0, ← hm] at own0
      have hne := M3.out.mp.ne_own own0
      have own1 := ownsRow_fr own0 f4 (fun q hq => ⟨(own0.lt q hq).2, by simp only [List.mem_singleton]; rintro rfl; exact hne hq.symm⟩)
      have hlt := M3.out.mp.lt
      have BLc := Lib.hid (BL.out.fr f4 BL.out.lt (by simp only [List.mem_singleton]; exact fun e => M3.out.mp.ne BL.out e.symm))
      have hrd := Reads.of_blk (size := 2) (m := 1) BLc.out rfl
      have hwc : w.heap.size ≤ wc.heap.size := by rw [hs4]; exact F3.out.size
      rw [← hv0] at hme
      simp only [plV, keyL] at hme
      have HV0 := Lib.hid hv0
      have HM := Lib.hid hm
      have HST := Lib.hid hst
      have F4 := Lib.hid f4
      clear hst hv0 hm own0 f4 BL
      go_wp2_with (at_builtin; refine wpList_app _ rfl (.tmp 23) (.tmp 26) valTy rfl w.heap.size v0 m _ rfl own1 (wa.heap.size + 1) _ 1 1 _ rfl hrd (by simp [Value.oneCell']) (by omega) (by omega) hwc ?_; intro A2 c2 wd hown2 hg2 hat2; obtain ⟨we, hes, hmp, hfe, hse⟩ := HST.out wd (.slice A2 (m + 1) c2) (hg2.block _ (by rw [hs4]; exact hlt) hne))
      have F5 := Lib.hid (((F3.out.trans (F4.out.mono (B' := w.heap.size) (L' := []) F3.out.size (by simp))).grown hg2 hwc (fun q hq => .inl (own1.lt q hq).1)).trans (hfe.mono (B' := w.heap.size) (L' := []) (Nat.le_trans hwc hg2.size) (by simp)))
      rw [HV0.out] at hg2 hat2
      have M4 := Lib.hid (M3.out.step F4.out hg2 (by rw [← HM.out]; exact hown2) hat2 hfe hmp)
      rw [← HTK.out] at M4
      clear hown2 hg2 hat2 hes hmp hfe hse hme own1 hrd
      go_roundg (n - (k + 1))
      case measure => omega
      case rel => exact ⟨k + 1, _, by omega, rfl, by go_num, .inr ⟨_, rfl⟩, .inr ⟨_, rfl⟩, M4, F5⟩
    · obtain rfl : n = k := by omega
      go_wp2_with fail
      go_ret
      have h := M.out
      rw [List.take_of_length_le (by rw [HN.out]; exact Nat.le_refl _)] at h
      exact ⟨ps, rfl, h, F.out⟩
end Go.Proofs.YthfibggbipkmfaaGreat
namespace Go.Proofs.YthfibggbipkmfaaGreat
open Go.RowKit Go.Fb
theorem cen_small (n : Int) : -524288 ≤ cen n ∧ cen n < 524288 := by unfold cen; omega
set_option maxRecDepth 100000 in
theorem number_any (re im : Int) (w : World) : Calls Tryz.prog 187 #[.agg #[.int .i64 re, .int .i64 im]] w fun e w' => e = .returned (.complex .f64 (floatOfInt .f64 (cen re)) (floatOfInt .f64 (cen im))) ∧ Fr w.heap.size [] w w' := by
  have HO := Lib.hid (gof_any re im)
  generalize cen re = a at *
  generalize cen im = b at *
  go_enter Tryz.func187, Tryz.ntmps187
  go_wp2_with fail
  refine (HO.out _).mono ?_
  rintro e w1 ⟨rfl, f1⟩
  have B1 := Lib.hid ((Blk.new w 42 #[.int .i64 re, .int .i64 im]).fr f1 (by simp) (by simp))
  have F1 := Lib.hid (((Fr.refl w.heap.size [] w).alloc (Nat.le_refl _) (.cells #[.int .i64 re, .int .i64 im] 42)).trans (f1.mono (B' := w.heap.size) (L' := []) (by simp) (by simp)))
  have x0 := B1.out.cell 0
  have x1 := B1.out.cell 1
  have z0 := B1.out.frozen 0
  have z1 := B1.out.frozen 1
  simp at x0 x1
  clear f1
  go_wp2_with fail
  go_ret
  exact ⟨rfl, (F1.out.setCell (p := ⟨w.heap.size, 0, none⟩) (.inl (Nat.le_refl _)) _).setCell (p := ⟨w.heap.size, 1, none⟩) (.inl (Nat.le_refl _)) _⟩
set_option maxRecDepth 100000 in
theorem value_any (a b : Int) (ha : a.natAbs < 2 ^ 53) (hb : b.natAbs < 2 ^ 53) (w : World) : Calls Tryz.prog 194 #[.complex .f64 (floatOfInt .f64 a) (floatOfInt .f64 b)] w fun e w' => e = .returned (.agg #[.int .i64 (cen a), .int .i64 (cen b)]) ∧ Fr w.heap.size [] w w' := by
  have HO := Lib.hid (gof_any a b)
  have c1 : ∀ w, (convert 264 3 (.float .f64 (floatOfInt .f64 a))).run Tryz.prog w = .ok (.int .i64 a) w := fun w => run_convert_float_int w _ _ .f64 .i64 _ a (by rw [Tryz.underlying264]; rfl) Tryz.underlying3 (float_int ha)
  have c2 : ∀ w, (convert 264 3 (.float .f64 (floatOfInt .f64 b))).run Tryz.prog w = .ok (.int .i64 b) w := fun w => run_convert_float_int w _ _ .f64 .i64 _ b (by rw [Tryz.underlying264]; rfl) Tryz.underlying3 (float_int hb)
  generalize floatOfInt .f64 a = fa at *
  generalize floatOfInt .f64 b = fb at *
  generalize cen a = x at *
  generalize cen b = y at *
  clear ha hb
  go_enter Tryz.func194, Tryz.ntmps194
  go_wp2_with fail
  refine (HO.out _).mono ?_
  rintro e w1 ⟨rfl, f1⟩
  have B1 := Lib.hid ((Blk.new w 42 #[.int .i64 0, .int .i64 0]).fr f1 (by simp) (by simp))
  have F1 := Lib.hid (((Fr.refl w.heap.size [] w).alloc (Nat.le_refl _) (.cells #[.int .i64 0, .int .i64 0] 42)).trans (f1.mono (B' := w.heap.size) (L' := []) (by simp) (by simp)))
  have x0 := B1.out.cell 0
  have x1 := B1.out.cell 1
  have z0 := B1.out.frozen 0
  have z1 := B1.out.frozen 1
  simp at x0 x1
  clear f1
  go_wp2_with fail
  exact bodyPost_ret (results_cell_row rfl _ _ w.heap.size 42 #[.int .i64 x, .int .i64 y] (0, 0) _ rfl ((B1.out.set_ 0 _).set_ 1 _) Tryz.underlying42 rfl (by kernel_rfl)) rfl ⟨rfl, (F1.out.setCell (p := ⟨w.heap.size, 0, none⟩) (.inl (Nat.le_refl _)) _).setCell (p := ⟨w.heap.size, 1, none⟩) (.inl (Nat.le_refl _)) _⟩
/-- The sum of two values, of values. -/
def addV (x y : Int × Int) : Int × Int := (cen (cen x.1 + cen y.1), cen (cen x.2 + cen y.2))
def sumV (l : List (Int × Int)) : Int × Int := l.foldl addV (0, 0)
theorem sumV_snoc (l : List (Int × Int)) (x : Int × Int) : sumV (l ++ [x]) = addV (sumV l) x := by unfold sumV; rw [List.foldl_append]; rfl
set_option maxRecDepth 100000 in
set_option maxHeartbeats 1000000 in
theorem gadd_any (A : Option Addr) (c B : Nat) (l : List (Int × Int)) (w : World) (hr : Reads w B 2 A l.length (cellsV l)) (hB : B ≤ w.heap.size) (hn : l.length ≤ 1000000) :
    Calls Tryz.prog 188 #[.slice A l.length c] w fun e w' => e = .returned (.agg #[.int .i64 (sumV l).1, .int .i64 (sumV l).2]) ∧ Fr w.heap.size [] w w' := by
  have HR := Lib.hid hr
  obtain ⟨n, hnl⟩ : ∃ n, n = l.length := ⟨_, rfl⟩
  have HN := Lib.hid hnl
  rw [← hnl] at hn ⊢
  clear hr hnl
  go_enter Tryz.func188, Tryz.ntmps188
  go_wp2_with fail
  have BR := Lib.hid ((Blk.new w 42 #[.int .i64 0, .int .i64 0]).alloc (.cells #[.int .i64 0, .int .i64 0] 42))
  have BO := Lib.hid (Blk.new (w.alloc (.cells #[.int .i64 0, .int .i64 0] 42)) 42 #[.int .i64 0, .int .i64 0])
  have F0 := Lib.hid (((Fr.refl w.heap.size [] w).alloc (Nat.le_refl _) (.cells #[.int .i64 0, .int .i64 0] 42)).alloc (by simp) (.cells #[.int .i64 0, .int .i64 0] 42))
  rw [World.size_alloc] at BO
  generalize (w.alloc _).alloc _ = w0 at *
  go_loopg [5, 8] n (fun g s5 s8 wr => ∃ k : Nat, k ≤ n ∧ g = n - k ∧ s8 = .int .i64 k ∧ (s5 = undef ∨ ∃ a, s5 = .pointer a) ∧ RowKit.Hid (Blk wr w.heap.size 42 #[.int .i64 0, .int .i64 0]) ∧ RowKit.Hid (Blk wr (w.heap.size + 1) 42 #[.int .i64 (sumV (l.take k)).1, .int .i64 (sumV (l.take k)).2]) ∧ RowKit.Hid (Fr w.heap.size [] w wr))
  case atStart => exact ⟨0, Nat.zero_le _, rfl, rfl, .inl rfl, BR, BO, F0⟩
  case round =>
    clear BR BO F0
    obtain ⟨k, hk, rfl, rfl, hs5, BR, BO, F⟩ := hrel
    by_cases hkn : k < n
    · have hki : (k : Int) < (n : Int) := by omega
      obtain ⟨x, hx⟩ : ∃ x, l[k]? = some x := ⟨_, List.getElem?_eq_getElem (by rw [← HN.out]; exact hkn)⟩
      obtain ⟨b, off, rfl, hb, p0, p1⟩ := reads_val (HR.out.fr F.out hB (by simp)) hx
      have HTK := Lib.hid (show sumV (l.take (k + 1)) = addV (sumV (l.take k)) x by rw [List.take_add_one, hx]; exact sumV_snoc _ _)
      clear hx
      obtain ⟨s, hs⟩ : ∃ s, s = sumV (l.take k) := ⟨_, rfl⟩
      rw [← hs] at BO HTK
      clear hs
      go_upto_region 5 with fail
      have BX := Lib.hid (Blk.new wr 42 #[.int .i64 x.1, .int .i64 x.2])
      have fa := (Fr.refl wr.heap.size [] wr).alloc (Nat.le_refl _) (.cells #[.int .i64 x.1, .int .i64 x.2] 42)
      have BO2 := Lib.hid (BO.out.fr fa BO.out.lt (by simp))
      have BR2 := Lib.hid (BR.out.fr fa BR.out.lt (by simp))
      have F2 := Lib.hid (F.out.trans (fa.mono F.out.size (by simp)))
      have hgx : w.heap.size + 1 < wr.heap.size := BO.out.lt
      clear fa BO BR F p0 p1
      generalize wr.alloc (.cells #[.int .i64 x.1, .int .i64 x.2] 42) = wa at *
      generalize wr.heap.size = gx at *
      have s1 := cen_small s.1
      have s2 := cen_small s.2
      have s3 := cen_small x.1
      have s4 := cen_small x.2
      have hadd : ∀ w, (binOp .add 259 (.complex .f64 (floatOfInt .f64 (cen s.1)) (floatOfInt .f64 (cen s.2))) (.complex .f64 (floatOfInt .f64 (cen x.1)) (floatOfInt .f64 (cen x.2)))).run Tryz.prog w = .ok (.complex .f64 (floatOfInt .f64 (cen s.1 + cen x.1)) (floatOfInt .f64 (cen s.2 + cen x.2))) w := fun w => run_complex_sum w .add (.inl rfl) _ .f64 _ _ _ _ _ _ (by
        unfold cSumBits
        rw [float_add (by omega) (by omega), float_add (by omega) (by omega)]
        rfl)
      have HV := Lib.hid (value_any (cen s.1 + cen x.1) (cen s.2 + cen x.2) (by omega) (by omega))
      obtain ⟨F, hF⟩ : ∃ F : Int → Nat, ∀ n, F n = floatOfInt .f64 (cen n) := ⟨_, fun _ => rfl⟩
      have HNM := Lib.hid (fun (p q : Int) (w : World) => (by rw [hF, hF]; exact number_any p q w : Calls Tryz.prog 187 #[.agg #[.int .i64 p, .int .i64 q]] w fun e w' => e = .returned (.complex .f64 (F p) (F q)) ∧ Fr w.heap.size [] w w'))
      rw [← hF, ← hF, ← hF, ← hF] at hadd
      obtain ⟨r, hr⟩ : ∃ r, r = addV s x := ⟨_, rfl⟩
      have HRV := Lib.hid hr
      have HV : RowKit.Hid (∀ w, Calls Tryz.prog 194 #[.complex .f64 (floatOfInt .f64 (cen s.1 + cen x.1)) (floatOfInt .f64 (cen s.2 + cen x.2))] w fun e w' => e = .returned (.agg #[.int .i64 r.1, .int .i64 r.2]) ∧ Fr w.heap.size [] w w') := by rw [hr]; exact HV
      rw [← hr] at HTK
      generalize floatOfInt .f64 (cen s.1 + cen x.1) = f5 at *
      generalize floatOfInt .f64 (cen s.2 + cen x.2) = f6 at *
      clear s1 s2 s3 s4 hr HRV hF
      have INV := Lib.hid ((Fr.refl wa.heap.size [] wa).drew)
      have o0 := BO2.out.cell 0
      have o1 := BO2.out.cell 1
      have x0 := BX.out.cell 0
      have x1 := BX.out.cell 1
      simp at o0 o1 x0 x1
      have z0 := BO2.out.frozen 0
      have z1 := BO2.out.frozen 1
      go_region_with
        (first
          | (go_at_call 187; refine (HNM.out _ _ _).mono ?_; rintro e w' ⟨rfl, hf⟩; have INV := Lib.hid (INV.out.trans (hf.mono INV.out.size (by simp))); have o0 := (BO2.out.fr INV.out BO2.out.lt (by simp)).cell 0; have o1 := (BO2.out.fr INV.out BO2.out.lt (by simp)).cell 1; have x0 := (BX.out.fr INV.out BX.out.lt (by simp)).cell 0; have x1 := (BX.out.fr INV.out BX.out.lt (by simp)).cell 1; simp at o0 o1 x0 x1; have z0 := (BO2.out.fr INV.out BO2.out.lt (by simp)).frozen 0; have z1 := (BO2.out.fr INV.out BO2.out.lt (by simp)).frozen 1; clear hf)
          | (go_at_call 194; refine (HV.out _).mono ?_; rintro e w' ⟨rfl, hf⟩; have INV := Lib.hid (INV.out.trans (hf.mono INV.out.size (by simp))); have o0 := (BO2.out.fr INV.out BO2.out.lt (by simp)).cell 0; have o1 := (BO2.out.fr INV.out BO2.out.lt (by simp)).cell 1; simp at o0 o1; have z0 := (BO2.out.fr INV.out BO2.out.lt (by simp)).frozen 0; have z1 := (BO2.out.fr INV.out BO2.out.lt (by simp)).frozen 1; clear hf))
      all_goals
        go_wp2_with fail
        have BR3 := Lib.hid (((BR2.out.fr INV.out BR2.out.lt (by simp)).far (p := ⟨w.heap.size + 1, 0, none⟩) (by simp) (.int .i64 r.1)).far (p := ⟨w.heap.size + 1, 1, none⟩) (by simp) (.int .i64 r.2))
        have BO3 := Lib.hid (((BO2.out.fr INV.out BO2.out.lt (by simp)).set_ 0 (.int .i64 r.1)).set_ 1 (.int .i64 r.2))
        have F3 := Lib.hid (((F2.out.trans (INV.out.mono F2.out.size (by simp))).setCell (p := ⟨w.heap.size + 1, 0, none⟩) (.inl (by simp)) (.int .i64 r.1)).setCell (p := ⟨w.heap.size + 1, 1, none⟩) (.inl (by simp)) (.int .i64 r.2))
        go_roundg (n - (k + 1))
        case measure => omega
        case rel => exact ⟨k + 1, by omega, rfl, by go_num, .inr ⟨_, rfl⟩, BR3, by rw [HTK.out]; exact BO3, F3⟩
    · obtain rfl : n = k := by omega
      rw [List.take_of_length_le (by rw [HN.out]; exact Nat.le_refl _)] at BO
      obtain ⟨s, hs⟩ : ∃ s, s = sumV l := ⟨_, rfl⟩
      rw [← hs] at BO
      have HSV := Lib.hid hs
      clear hs
      have x0 := BO.out.cell 0
      have x1 := BO.out.cell 1
      have y0 := BR.out.cell 0
      have y1 := BR.out.cell 1
      have z0 := BR.out.frozen 0
      have z1 := BR.out.frozen 1
      simp at x0 x1 y0 y1
      go_wp2_with fail
      exact bodyPost_ret (results_cell_row rfl _ _ w.heap.size 42 #[.int .i64 s.1, .int .i64 s.2] (0, 0) _ rfl ((BR.out.set_ 0 _).set_ 1 _) Tryz.underlying42 rfl (by kernel_rfl)) rfl ⟨by rw [← HSV.out], (F.out.setCell (p := ⟨w.heap.size, 0, none⟩) (.inl (Nat.le_refl _)) _).setCell (p := ⟨w.heap.size, 1, none⟩) (.inl (Nat.le_refl _)) _⟩
end Go.Proofs.YthfibggbipkmfaaGreat
namespace Go.Proofs.YthfibggbipkmfaaGreat
open Go.RowKit Go.Fb
set_option linter.unusedVariables false
theorem mul_small {a b : Int} (ha : a.natAbs ≤ 524288) (hb : b.natAbs ≤ 524288) : (a * b).natAbs ≤ 274877906944 := by
  rw [Int.natAbs_mul]
  exact Nat.le_trans (Nat.mul_le_mul ha hb) (by decide)
theorem cmul_small {a b c d : Int} (ha : a.natAbs ≤ 524288) (hb : b.natAbs ≤ 524288) (hc : c.natAbs ≤ 524288) (hd : d.natAbs ≤ 524288) : (a * c - b * d).natAbs < 2 ^ 53 ∧ (a * d + b * c).natAbs < 2 ^ 53 := by
  have h1 := mul_small ha hc
  have h2 := mul_small hb hd
  have h3 := mul_small ha hd
  have h4 := mul_small hb hc
  generalize a * c = p at *
  generalize b * d = q at *
  generalize a * d = r at *
  generalize b * c = s at *
  omega
theorem cmul_is {a b c d : Int} (ha : a.natAbs ≤ 524288) (hb : b.natAbs ≤ 524288) (hc : c.natAbs ≤ 524288) (hd : d.natAbs ≤ 524288) :
    ∃ re im, cMulBits (floatOfInt .f64 a) (floatOfInt .f64 b) (floatOfInt .f64 c) (floatOfInt .f64 d) = some (re, im) ∧ IsF re (a * c - b * d) ∧ IsF im (a * d + b * c) := by
  have ia := isf_int (n := a) (by omega)
  have ib := isf_int (n := b) (by omega)
  have ic := isf_int (n := c) (by omega)
  have id := isf_int (n := d) (by omega)
  have b1 := mul_small ha hc
  have b2 := mul_small hb hd
  have b3 := mul_small ha hd
  have b4 := mul_small hb hc
  obtain ⟨b5, b6⟩ := cmul_small ha hb hc hd
  obtain ⟨z1, e1, i1⟩ := isf_mul ia ic (by omega)
  obtain ⟨z2, e2, i2⟩ := isf_mul ib id (by omega)
  obtain ⟨z3, e3, i3⟩ := isf_mul ia id (by omega)
  obtain ⟨z4, e4, i4⟩ := isf_mul ib ic (by omega)
  obtain ⟨z5, e5, i5⟩ := isf_sub i1 i2 b5
  obtain ⟨z6, e6, i6⟩ := isf_add i3 i4 b6
  refine ⟨z5, z6, ?_, i5, i6⟩
  have f1 : floatBits .mul .f64 (floatOfInt .f64 a) (floatOfInt .f64 c) = some z1 := e1
  have f2 : floatBits .mul .f64 (floatOfInt .f64 b) (floatOfInt .f64 d) = some z2 := e2
  have f3 : floatBits .mul .f64 (floatOfInt .f64 a) (floatOfInt .f64 d) = some z3 := e3
  have f4 : floatBits .mul .f64 (floatOfInt .f64 b) (floatOfInt .f64 c) = some z4 := e4
  have f5 : floatBits .sub .f64 z1 z2 = some z5 := e5
  have f6 : floatBits .add .f64 z3 z4 = some z6 := e6
  unfold cMulBits
  simp only [f1, f2, f3, f4, f5, f6, Option.bind_some]
set_option maxRecDepth 100000 in
theorem value_isf (fa fb : Nat) (a b : Int) (h1 : IsF fa a) (h2 : IsF fb b) (ha : a.natAbs < 2 ^ 53) (hb : b.natAbs < 2 ^ 53) (w : World) : Calls Tryz.prog 194 #[.complex .f64 fa fb] w fun e w' => e = .returned (.agg #[.int .i64 (cen a), .int .i64 (cen b)]) ∧ Fr w.heap.size [] w w' := by
  have HO := Lib.hid (gof_any a b)
  have c1 : ∀ w, (convert 264 3 (.float .f64 fa)).run Tryz.prog w = .ok (.int .i64 a) w := fun w => run_convert_float_int w _ _ .f64 .i64 _ a (by rw [Tryz.underlying264]; rfl) Tryz.underlying3 (isf_toInt h1 ha)
  have c2 : ∀ w, (convert 264 3 (.float .f64 fb)).run Tryz.prog w = .ok (.int .i64 b) w := fun w => run_convert_float_int w _ _ .f64 .i64 _ b (by rw [Tryz.underlying264]; rfl) Tryz.underlying3 (isf_toInt h2 hb)
  generalize cen a = x at *
  generalize cen b = y at *
  clear ha hb h1 h2
  go_enter Tryz.func194, Tryz.ntmps194
  go_wp2_with fail
  refine (HO.out _).mono ?_
  rintro e w1 ⟨rfl, f1⟩
  have B1 := Lib.hid ((Blk.new w 42 #[.int .i64 0, .int .i64 0]).fr f1 (by simp) (by simp))
  have F1 := Lib.hid (((Fr.refl w.heap.size [] w).alloc (Nat.le_refl _) (.cells #[.int .i64 0, .int .i64 0] 42)).trans (f1.mono (B' := w.heap.size) (L' := []) (by simp) (by simp)))
  have x0 := B1.out.cell 0
  have x1 := B1.out.cell 1
  have z0 := B1.out.frozen 0
  have z1 := B1.out.frozen 1
  simp at x0 x1
  clear f1
  go_wp2_with fail
  exact bodyPost_ret (results_cell_row rfl _ _ w.heap.size 42 #[.int .i64 x, .int .i64 y] (0, 0) _ rfl ((B1.out.set_ 0 _).set_ 1 _) Tryz.underlying42 rfl (by kernel_rfl)) rfl ⟨rfl, (F1.out.setCell (p := ⟨w.heap.size, 0, none⟩) (.inl (Nat.le_refl _)) _).setCell (p := ⟨w.heap.size, 1, none⟩) (.inl (Nat.le_refl _)) _⟩
/-- The product of two values, of values. -/
def mulV (x y : Int × Int) : Int × Int := (cen (cen x.1 * cen y.1 - cen x.2 * cen y.2), cen (cen x.1 * cen y.2 + cen x.2 * cen y.1))
def prodV (l : List (Int × Int)) : Int × Int := l.foldl mulV (1, 0)
theorem prodV_snoc (l : List (Int × Int)) (x : Int × Int) : prodV (l ++ [x]) = mulV (prodV l) x := by unfold prodV; rw [List.foldl_append]; rfl
set_option maxRecDepth 100000 in
set_option maxHeartbeats 1000000 in
theorem gmul_any (A : Option Addr) (c B : Nat) (l : List (Int × Int)) (w : World) (hr : Reads w B 2 A l.length (cellsV l)) (hB : B ≤ w.heap.size) (hn : l.length ≤ 1000000) :
    Calls Tryz.prog 190 #[.slice A l.length c] w fun e w' => e = .returned (.agg #[.int .i64 (prodV l).1, .int .i64 (prodV l).2]) ∧ Fr w.heap.size [] w w' := by
  have HR := Lib.hid hr
  obtain ⟨n, hnl⟩ : ∃ n, n = l.length := ⟨_, rfl⟩
  have HN := Lib.hid hnl
  rw [← hnl] at hn ⊢
  clear hr hnl
  go_enter Tryz.func190, Tryz.ntmps190
  go_wp2_with fail
  have BR := Lib.hid ((Blk.new w 42 #[.int .i64 0, .int .i64 0]).alloc (.cells #[.int .i64 1, .int .i64 0] 42))
  have BO := Lib.hid (Blk.new (w.alloc (.cells #[.int .i64 0, .int .i64 0] 42)) 42 #[.int .i64 1, .int .i64 0])
  have F0 := Lib.hid (((Fr.refl w.heap.size [] w).alloc (Nat.le_refl _) (.cells #[.int .i64 0, .int .i64 0] 42)).alloc (by simp) (.cells #[.int .i64 1, .int .i64 0] 42))
  rw [World.size_alloc] at BO
  generalize (w.alloc _).alloc _ = w0 at *
  go_loopg [5, 9] n (fun g s5 s8 wr => ∃ k : Nat, k ≤ n ∧ g = n - k ∧ s8 = .int .i64 k ∧ (s5 = undef ∨ ∃ a, s5 = .pointer a) ∧ RowKit.Hid (Blk wr w.heap.size 42 #[.int .i64 0, .int .i64 0]) ∧ RowKit.Hid (Blk wr (w.heap.size + 1) 42 #[.int .i64 (prodV (l.take k)).1, .int .i64 (prodV (l.take k)).2]) ∧ RowKit.Hid (Fr w.heap.size [] w wr))
  case atStart => exact ⟨0, Nat.zero_le _, rfl, rfl, .inl rfl, BR, BO, F0⟩
  case round =>
    clear BR BO F0
    obtain ⟨k, hk, rfl, rfl, hs5, BR, BO, F⟩ := hrel
    by_cases hkn : k < n
    · have hki : (k : Int) < (n : Int) := by omega
      obtain ⟨x, hx⟩ : ∃ x, l[k]? = some x := ⟨_, List.getElem?_eq_getElem (by rw [← HN.out]; exact hkn)⟩
      obtain ⟨b, off, rfl, hb, p0, p1⟩ := reads_val (HR.out.fr F.out hB (by simp)) hx
      have HTK := Lib.hid (show prodV (l.take (k + 1)) = mulV (prodV (l.take k)) x by rw [List.take_add_one, hx]; exact prodV_snoc _ _)
      clear hx
      obtain ⟨s, hs⟩ : ∃ s, s = prodV (l.take k) := ⟨_, rfl⟩
      rw [← hs] at BO HTK
      clear hs
      go_upto_region 5 with fail
      have BX := Lib.hid (Blk.new wr 42 #[.int .i64 x.1, .int .i64 x.2])
      have fa := (Fr.refl wr.heap.size [] wr).alloc (Nat.le_refl _) (.cells #[.int .i64 x.1, .int .i64 x.2] 42)
      have BO2 := Lib.hid (BO.out.fr fa BO.out.lt (by simp))
      have BR2 := Lib.hid (BR.out.fr fa BR.out.lt (by simp))
      have F2 := Lib.hid (F.out.trans (fa.mono F.out.size (by simp)))
      have hgx : w.heap.size + 1 < wr.heap.size := BO.out.lt
      clear fa BO BR F p0 p1
      generalize wr.alloc (.cells #[.int .i64 x.1, .int .i64 x.2] 42) = wa at *
      generalize wr.heap.size = gx at *
      have s1 := cen_small s.1
      have s2 := cen_small s.2
      have s3 := cen_small x.1
      have s4 := cen_small x.2
      obtain ⟨re, im, hcm, hre, him⟩ := cmul_is (a := cen s.1) (b := cen s.2) (c := cen x.1) (d := cen x.2) (by omega) (by omega) (by omega) (by omega)
      have hadd : ∀ w, (binOp .mul 259 (.complex .f64 (floatOfInt .f64 (cen s.1)) (floatOfInt .f64 (cen s.2))) (.complex .f64 (floatOfInt .f64 (cen x.1)) (floatOfInt .f64 (cen x.2)))).run Tryz.prog w = .ok (.complex .f64 re im) w := fun w => run_complex_mul w _ _ _ _ _ _ _ hcm
      have hbb := cmul_small (a := cen s.1) (b := cen s.2) (c := cen x.1) (d := cen x.2) (by omega) (by omega) (by omega) (by omega)
      have HV := Lib.hid (value_isf re im _ _ hre him hbb.1 hbb.2)
      obtain ⟨F, hF⟩ : ∃ F : Int → Nat, ∀ n, F n = floatOfInt .f64 (cen n) := ⟨_, fun _ => rfl⟩
      have HNM := Lib.hid (fun (p q : Int) (w : World) => (by rw [hF, hF]; exact number_any p q w : Calls Tryz.prog 187 #[.agg #[.int .i64 p, .int .i64 q]] w fun e w' => e = .returned (.complex .f64 (F p) (F q)) ∧ Fr w.heap.size [] w w'))
      rw [← hF, ← hF, ← hF, ← hF] at hadd
      obtain ⟨r, hr⟩ : ∃ r, r = mulV s x := ⟨_, rfl⟩
      have HRV := Lib.hid hr
      have HV : RowKit.Hid (∀ w, Calls Tryz.prog 194 #[.complex .f64 re im] w fun e w' => e = .returned (.agg #[.int .i64 r.1, .int .i64 r.2]) ∧ Fr w.heap.size [] w w') := by rw [hr]; exact HV
      rw [← hr] at HTK
      clear s1 s2 s3 s4 hr HRV hF hcm hre him hbb
      have INV := Lib.hid ((Fr.refl wa.heap.size [] wa).drew)
      have o0 := BO2.out.cell 0
      have o1 := BO2.out.cell 1
      have x0 := BX.out.cell 0
      have x1 := BX.out.cell 1
      simp at o0 o1 x0 x1
      have z0 := BO2.out.frozen 0
      have z1 := BO2.out.frozen 1
      go_region_with
        (first
          | (go_at_call 187; refine (HNM.out _ _ _).mono ?_; rintro e w' ⟨rfl, hf⟩; have INV := Lib.hid (INV.out.trans (hf.mono INV.out.size (by simp))); have o0 := (BO2.out.fr INV.out BO2.out.lt (by simp)).cell 0; have o1 := (BO2.out.fr INV.out BO2.out.lt (by simp)).cell 1; have x0 := (BX.out.fr INV.out BX.out.lt (by simp)).cell 0; have x1 := (BX.out.fr INV.out BX.out.lt (by simp)).cell 1; simp at o0 o1 x0 x1; have z0 := (BO2.out.fr INV.out BO2.out.lt (by simp)).frozen 0; have z1 := (BO2.out.fr INV.out BO2.out.lt (by simp)).frozen 1; clear hf)
          | (go_at_call 194; refine (HV.out _).mono ?_; rintro e w' ⟨rfl, hf⟩; have INV := Lib.hid (INV.out.trans (hf.mono INV.out.size (by simp))); have o0 := (BO2.out.fr INV.out BO2.out.lt (by simp)).cell 0; have o1 := (BO2.out.fr INV.out BO2.out.lt (by simp)).cell 1; simp at o0 o1; have z0 := (BO2.out.fr INV.out BO2.out.lt (by simp)).frozen 0; have z1 := (BO2.out.fr INV.out BO2.out.lt (by simp)).frozen 1; clear hf))
      all_goals
        go_wp2_with fail
        have BR3 := Lib.hid (((BR2.out.fr INV.out BR2.out.lt (by simp)).far (p := ⟨w.heap.size + 1, 0, none⟩) (by simp) (.int .i64 r.1)).far (p := ⟨w.heap.size + 1, 1, none⟩) (by simp) (.int .i64 r.2))
        have BO3 := Lib.hid (((BO2.out.fr INV.out BO2.out.lt (by simp)).set_ 0 (.int .i64 r.1)).set_ 1 (.int .i64 r.2))
        have F3 := Lib.hid (((F2.out.trans (INV.out.mono F2.out.size (by simp))).setCell (p := ⟨w.heap.size + 1, 0, none⟩) (.inl (by simp)) (.int .i64 r.1)).setCell (p := ⟨w.heap.size + 1, 1, none⟩) (.inl (by simp)) (.int .i64 r.2))
        go_roundg (n - (k + 1))
        case measure => omega
        case rel => exact ⟨k + 1, by omega, rfl, by go_num, .inr ⟨_, rfl⟩, BR3, by rw [HTK.out]; exact BO3, F3⟩
    · obtain rfl : n = k := by omega
      rw [List.take_of_length_le (by rw [HN.out]; exact Nat.le_refl _)] at BO
      obtain ⟨s, hs⟩ : ∃ s, s = prodV l := ⟨_, rfl⟩
      rw [← hs] at BO
      have HSV := Lib.hid hs
      clear hs
      have x0 := BO.out.cell 0
      have x1 := BO.out.cell 1
      have y0 := BR.out.cell 0
      have y1 := BR.out.cell 1
      have z0 := BR.out.frozen 0
      have z1 := BR.out.frozen 1
      simp at x0 x1 y0 y1
      go_wp2_with fail
      exact bodyPost_ret (results_cell_row rfl _ _ w.heap.size 42 #[.int .i64 s.1, .int .i64 s.2] (0, 0) _ rfl ((BR.out.set_ 0 _).set_ 1 _) Tryz.underlying42 rfl (by kernel_rfl)) rfl ⟨by rw [← HSV.out], (F.out.setCell (p := ⟨w.heap.size, 0, none⟩) (.inl (Nat.le_refl _)) _).setCell (p := ⟨w.heap.size, 1, none⟩) (.inl (Nat.le_refl _)) _⟩
end Go.Proofs.YthfibggbipkmfaaGreat
namespace Go.Proofs.YthfibggbipkmfaaGreat
open Go.RowKit Go.Fb
set_option linter.unusedVariables false
def subV (x y : Int × Int) : Int × Int := (cen (cen x.1 - cen y.1), cen (cen x.2 - cen y.2))
def turnV (x : Int × Int) : Int × Int := (cen (-cen x.2), cen (cen x.1))
set_option maxRecDepth 100000 in
set_option maxHeartbeats 2000000 in
theorem gsub_any (x y : Int × Int) (w : World) : Calls Tryz.prog 189 #[.agg #[.int .i64 x.1, .int .i64 x.2], .agg #[.int .i64 y.1, .int .i64 y.2]] w fun e w' => e = .returned (.agg #[.int .i64 (subV x y).1, .int .i64 (subV x y).2]) ∧ Fr w.heap.size [] w w' := by
  have BA := ((Blk.new w 42 #[.int .i64 x.1, .int .i64 x.2]).alloc (.cells #[.int .i64 y.1, .int .i64 y.2] 42)).alloc (.cells #[.int .i64 0, .int .i64 0] 42)
  have BB := (Blk.new (w.alloc (.cells #[.int .i64 x.1, .int .i64 x.2] 42)) 42 #[.int .i64 y.1, .int .i64 y.2]).alloc (.cells #[.int .i64 0, .int .i64 0] 42)
  have BC := Blk.new ((w.alloc (.cells #[.int .i64 x.1, .int .i64 x.2] 42)).alloc (.cells #[.int .i64 y.1, .int .i64 y.2] 42)) 42 #[.int .i64 0, .int .i64 0]
  have f0 := (((Fr.refl w.heap.size [] w).alloc (Nat.le_refl _) (.cells #[.int .i64 x.1, .int .i64 x.2] 42)).alloc (by simp) (.cells #[.int .i64 y.1, .int .i64 y.2] 42)).alloc (by simp; omega) (.cells #[.int .i64 0, .int .i64 0] 42)
  rw [World.size_alloc] at BB BC
  rw [World.size_alloc] at BC
  have BA := Lib.hid BA
  have BB := Lib.hid BB
  have BC := Lib.hid BC
  have F0 := Lib.hid f0
  clear f0
  have s1 := cen_small x.1
  have s2 := cen_small x.2
  have s3 := cen_small y.1
  have s4 := cen_small y.2
  obtain ⟨re, hre, ire⟩ := isf_sub (isf_int (n := cen x.1) (by omega)) (isf_int (n := cen y.1) (by omega)) (by omega)
  obtain ⟨im, him, iim⟩ := isf_sub (isf_int (n := cen x.2) (by omega)) (isf_int (n := cen y.2) (by omega)) (by omega)
  have hsub : ∀ w, (binOp .sub 259 (.complex .f64 (floatOfInt .f64 (cen x.1)) (floatOfInt .f64 (cen x.2))) (.complex .f64 (floatOfInt .f64 (cen y.1)) (floatOfInt .f64 (cen y.2)))).run Tryz.prog w = .ok (.complex .f64 re im) w := fun w => run_complex_sum w .sub (.inr rfl) _ .f64 _ _ _ _ _ _ (by
    have f1 : floatBits .sub .f64 (floatOfInt .f64 (cen x.1)) (floatOfInt .f64 (cen y.1)) = some re := hre
    have f2 : floatBits .sub .f64 (floatOfInt .f64 (cen x.2)) (floatOfInt .f64 (cen y.2)) = some im := him
    unfold cSumBits
    rw [f1, f2]
    rfl)
  have HV0 := Lib.hid (value_isf re im _ _ ire iim (by omega) (by omega))
  obtain ⟨F, hF⟩ : ∃ F : Int → Nat, ∀ n, F n = floatOfInt .f64 (cen n) := ⟨_, fun _ => rfl⟩
  have HNM := Lib.hid (fun (p q : Int) (w : World) => (by rw [hF, hF]; exact number_any p q w : Calls Tryz.prog 187 #[.agg #[.int .i64 p, .int .i64 q]] w fun e w' => e = .returned (.complex .f64 (F p) (F q)) ∧ Fr w.heap.size [] w w'))
  rw [← hF, ← hF, ← hF, ← hF] at hsub
  obtain ⟨r, hr⟩ : ∃ r, r = subV x y := ⟨_, rfl⟩
  have HV : RowKit.Hid (∀ w, Calls Tryz.prog 194 #[.complex .f64 re im] w fun e w' => e = .returned (.agg #[.int .i64 r.1, .int .i64 r.2]) ∧ Fr w.heap.size [] w w') := by rw [hr]; exact HV0
  rw [← hr]
  clear s1 s2 s3 s4 hr hF hre him ire iim HV0
  go_enter Tryz.func189, Tryz.ntmps189
  go_upto_region 1 with fail
  generalize ((w.alloc (.cells #[.int .i64 x.1, .int .i64 x.2] 42)).alloc (.cells #[.int .i64 y.1, .int .i64 y.2] 42)).alloc (.cells #[.int .i64 0, .int .i64 0] 42) = wa at *
  have INV := Lib.hid ((Fr.refl wa.heap.size [] wa).drew)
  have x0 := BA.out.cell 0
  have x1 := BA.out.cell 1
  have y0 := BB.out.cell 0
  have y1 := BB.out.cell 1
  have c0 := BC.out.cell 0
  have c1 := BC.out.cell 1
  simp at x0 x1 y0 y1 c0 c1
  have z0 := BC.out.frozen 0
  have z1 := BC.out.frozen 1
  go_region_with
    (first
      | (go_at_call 187; refine (HNM.out _ _ _).mono ?_; rintro e w' ⟨rfl, hf⟩; have INV := Lib.hid (INV.out.trans (hf.mono INV.out.size (by simp))); have x0 := (BA.out.fr INV.out BA.out.lt (by simp)).cell 0; have x1 := (BA.out.fr INV.out BA.out.lt (by simp)).cell 1; have y0 := (BB.out.fr INV.out BB.out.lt (by simp)).cell 0; have y1 := (BB.out.fr INV.out BB.out.lt (by simp)).cell 1; have c0 := (BC.out.fr INV.out BC.out.lt (by simp)).cell 0; have c1 := (BC.out.fr INV.out BC.out.lt (by simp)).cell 1; simp at x0 x1 y0 y1 c0 c1; have z0 := (BC.out.fr INV.out BC.out.lt (by simp)).frozen 0; have z1 := (BC.out.fr INV.out BC.out.lt (by simp)).frozen 1; clear hf)
      | (go_at_call 194; refine (HV.out _).mono ?_; rintro e w' ⟨rfl, hf⟩; have INV := Lib.hid (INV.out.trans (hf.mono INV.out.size (by simp))); have c0 := (BC.out.fr INV.out BC.out.lt (by simp)).cell 0; have c1 := (BC.out.fr INV.out BC.out.lt (by simp)).cell 1; simp at c0 c1; have z0 := (BC.out.fr INV.out BC.out.lt (by simp)).frozen 0; have z1 := (BC.out.fr INV.out BC.out.lt (by simp)).frozen 1; clear hf))
  all_goals
    have BC3 := (BC.out.fr INV.out BC.out.lt (by simp))
    have F3 := F0.out.trans (INV.out.mono (B' := w.heap.size) (L' := []) F0.out.size (by simp))
    go_wp2_with fail
    exact bodyPost_ret (results_cell_row rfl _ _ (w.heap.size + 1 + 1) 42 #[.int .i64 r.1, .int .i64 r.2] (0, 0) _ rfl ((BC3.set_ 0 _).set_ 1 _) Tryz.underlying42 rfl (by kernel_rfl)) rfl ⟨rfl, (F3.setCell (p := ⟨w.heap.size + 1 + 1, 0, none⟩) (.inl (by simp; omega)) _).setCell (p := ⟨w.heap.size + 1 + 1, 1, none⟩) (.inl (by simp; omega)) _⟩
end Go.Proofs.YthfibggbipkmfaaGreat
namespace Go.Proofs.YthfibggbipkmfaaGreat
open Go.RowKit Go.Fb
set_option linter.unusedVariables false
def conjV (x : Int × Int) : Int × Int := (cen (cen x.1), cen (-cen x.2))
theorem float_zero : floatOfInt .f64 0 = 0 := by decide
theorem float_one : floatOfInt .f64 1 = 4607182418800017408 := by decide
set_option maxRecDepth 100000 in
set_option maxHeartbeats 2000000 in
theorem gturn_any (x : Int × Int) (w : World) : Calls Tryz.prog 193 #[.agg #[.int .i64 x.1, .int .i64 x.2]] w fun e w' => e = .returned (.agg #[.int .i64 (turnV x).1, .int .i64 (turnV x).2]) ∧ Fr w.heap.size [] w w' := by
  have BA := (Blk.new w 42 #[.int .i64 x.1, .int .i64 x.2]).alloc (.cells #[.int .i64 0, .int .i64 0] 42)
  have BC := Blk.new (w.alloc (.cells #[.int .i64 x.1, .int .i64 x.2] 42)) 42 #[.int .i64 0, .int .i64 0]
  have f0 := ((Fr.refl w.heap.size [] w).alloc (Nat.le_refl _) (.cells #[.int .i64 x.1, .int .i64 x.2] 42)).alloc (by simp) (.cells #[.int .i64 0, .int .i64 0] 42)
  rw [World.size_alloc] at BC
  have BA := Lib.hid BA
  have BC := Lib.hid BC
  have F0 := Lib.hid f0
  clear f0
  have s1 := cen_small x.1
  have s2 := cen_small x.2
  obtain ⟨re, im, hcm, ire, iim⟩ := cmul_is (a := cen x.1) (b := cen x.2) (c := 0) (d := 1) (by omega) (by omega) (by decide) (by decide)
  rw [show cen x.1 * 0 - cen x.2 * 1 = -cen x.2 by omega] at ire
  rw [show cen x.1 * 1 + cen x.2 * 0 = cen x.1 by omega] at iim
  have hmul : ∀ w, (binOp .mul 259 (.complex .f64 (floatOfInt .f64 (cen x.1)) (floatOfInt .f64 (cen x.2))) (.complex .f64 0 4607182418800017408)).run Tryz.prog w = .ok (.complex .f64 re im) w := fun w => run_complex_mul w _ _ _ _ _ _ _ (by rw [← float_zero, ← float_one]; exact hcm)
  have HV0 := Lib.hid (value_isf re im _ _ ire iim (by omega) (by omega))
  have HN := Lib.hid (number_any x.1 x.2)
  generalize floatOfInt .f64 (cen x.1) = fa at *
  generalize floatOfInt .f64 (cen x.2) = fb at *
  obtain ⟨r, hr⟩ : ∃ r, r = turnV x := ⟨_, rfl⟩
  have HV : RowKit.Hid (∀ w, Calls Tryz.prog 194 #[.complex .f64 re im] w fun e w' => e = .returned (.agg #[.int .i64 r.1, .int .i64 r.2]) ∧ Fr w.heap.size [] w w') := by rw [hr]; exact HV0
  rw [← hr]
  clear s1 s2 hr hcm ire iim HV0
  go_enter Tryz.func193, Tryz.ntmps193
  go_upto_region 1 with fail
  generalize (w.alloc (.cells #[.int .i64 x.1, .int .i64 x.2] 42)).alloc (.cells #[.int .i64 0, .int .i64 0] 42) = wa at *
  have x0 := BA.out.cell 0
  have x1 := BA.out.cell 1
  simp at x0 x1
  go_wp2_with fail
  refine (HN.out _).mono ?_
  rintro e w1 ⟨rfl, f1⟩
  have F1 := Lib.hid (F0.out.trans (f1.mono (B' := w.heap.size) (L' := []) F0.out.size (by simp)))
  have BC1 := Lib.hid (BC.out.fr f1 BC.out.lt (by simp))
  clear f1 x0 x1 F0 BC BA
  go_wp2_with fail
  refine (HV.out _).mono ?_
  rintro e w2 ⟨rfl, f2⟩
  have F2 := Lib.hid (F1.out.trans (f2.mono (B' := w.heap.size) (L' := []) F1.out.size (by simp)))
  have BC2 := Lib.hid (BC1.out.fr f2 BC1.out.lt (by simp))
  have c0 := BC2.out.cell 0
  have c1 := BC2.out.cell 1
  have z0 := BC2.out.frozen 0
  have z1 := BC2.out.frozen 1
  simp at c0 c1
  clear f2 F1 BC1
  go_wp2_with fail
  exact bodyPost_ret (results_cell_row rfl _ _ (w.heap.size + 1) 42 #[.int .i64 r.1, .int .i64 r.2] (0, 0) _ rfl ((BC2.out.set_ 0 _).set_ 1 _) Tryz.underlying42 rfl (by kernel_rfl)) rfl ⟨rfl, (F2.out.setCell (p := ⟨w.heap.size + 1, 0, none⟩) (.inl (by simp)) _).setCell (p := ⟨w.heap.size + 1, 1, none⟩) (.inl (by simp)) _⟩
set_option maxRecDepth 100000 in
set_option maxHeartbeats 2000000 in
theorem gconj_any (x : Int × Int) (w : World) : Calls Tryz.prog 192 #[.agg #[.int .i64 x.1, .int .i64 x.2]] w fun e w' => e = .returned (.agg #[.int .i64 (conjV x).1, .int .i64 (conjV x).2]) ∧ Fr w.heap.size [] w w' := by
  have BA := (Blk.new w 42 #[.int .i64 x.1, .int .i64 x.2]).alloc (.cells #[.int .i64 0, .int .i64 0] 42)
  have BC := Blk.new (w.alloc (.cells #[.int .i64 x.1, .int .i64 x.2] 42)) 42 #[.int .i64 0, .int .i64 0]
  have f0 := ((Fr.refl w.heap.size [] w).alloc (Nat.le_refl _) (.cells #[.int .i64 x.1, .int .i64 x.2] 42)).alloc (by simp) (.cells #[.int .i64 0, .int .i64 0] 42)
  rw [World.size_alloc] at BC
  have BA := Lib.hid BA
  have BC := Lib.hid BC
  have F0 := Lib.hid f0
  clear f0
  have s1 := cen_small x.1
  have s2 := cen_small x.2
  have HV0 := Lib.hid (value_isf (floatOfInt .f64 (cen x.1)) (floatOfInt .f64 (cen x.2) ^^^ 2 ^ 63) _ _ (isf_int (by omega)) (isf_negOf (by omega)) (by omega) (by omega))
  have HN := Lib.hid (number_any x.1 x.2)
  generalize floatOfInt .f64 (cen x.1) = fa at *
  generalize floatOfInt .f64 (cen x.2) = fb at *
  obtain ⟨fc, hfc⟩ : ∃ fc, fc = Op.negFloat .f64 fb := ⟨_, rfl⟩
  rw [show fb ^^^ 2 ^ 63 = fc from hfc.symm] at HV0
  have HNEG : RowKit.Hid (∀ w, (Op.unary .neg (.float .f64 fb)).run Tryz.prog w = .ok (.float .f64 fc) w) := Lib.hid (fun w => by rw [hfc]; rfl)
  have HFC := Lib.hid hfc
  clear hfc
  obtain ⟨r, hr⟩ : ∃ r, r = conjV x := ⟨_, rfl⟩
  have HV : RowKit.Hid (∀ w, Calls Tryz.prog 194 #[.complex .f64 fa fc] w fun e w' => e = .returned (.agg #[.int .i64 r.1, .int .i64 r.2]) ∧ Fr w.heap.size [] w w') := by rw [hr]; exact HV0
  rw [← hr]
  clear s1 s2 hr HV0
  go_enter Tryz.func192, Tryz.ntmps192
  go_upto_region 1 with fail
  generalize (w.alloc (.cells #[.int .i64 x.1, .int .i64 x.2] 42)).alloc (.cells #[.int .i64 0, .int .i64 0] 42) = wa at *
  have x0 := BA.out.cell 0
  have x1 := BA.out.cell 1
  simp at x0 x1
  go_wp2_with fail
  refine (HN.out _).mono ?_
  rintro e w1 ⟨rfl, f1⟩
  have F1 := Lib.hid (F0.out.trans (f1.mono (B' := w.heap.size) (L' := []) F0.out.size (by simp)))
  have BC1 := Lib.hid (BC.out.fr f1 BC.out.lt (by simp))
  clear f1 x0 x1 F0 BC BA
  have hneg := HNEG.out
  go_wp2_with fail
  refine (HV.out _).mono ?_
  rintro e w2 ⟨rfl, f2⟩
  have F2 := Lib.hid (F1.out.trans (f2.mono (B' := w.heap.size) (L' := []) F1.out.size (by simp)))
  have BC2 := Lib.hid (BC1.out.fr f2 BC1.out.lt (by simp))
  have c0 := BC2.out.cell 0
  have c1 := BC2.out.cell 1
  have z0 := BC2.out.frozen 0
  have z1 := BC2.out.frozen 1
  simp at c0 c1
  clear f2 F1 BC1
  go_wp2_with fail
  exact bodyPost_ret (results_cell_row rfl _ _ (w.heap.size + 1) 42 #[.int .i64 r.1, .int .i64 r.2] (0, 0) _ rfl ((BC2.out.set_ 0 _).set_ 1 _) Tryz.underlying42 rfl (by kernel_rfl)) rfl ⟨rfl, (F2.out.setCell (p := ⟨w.heap.size + 1, 0, none⟩) (.inl (by simp)) _).setCell (p := ⟨w.heap.size + 1, 1, none⟩) (.inl (by simp)) _⟩
set_option maxRecDepth 100000 in
theorem gzero_any (x : Int × Int) (w : World) : Calls Tryz.prog 184 #[.agg #[.int .i64 x.1, .int .i64 x.2]] w fun e w' => e = .returned (.bool (decide (cen x.1 = 0 ∧ cen x.2 = 0))) ∧ Fr w.heap.size [] w w' := by
  have BA := Lib.hid (Blk.new w 42 #[.int .i64 x.1, .int .i64 x.2])
  have F0 := Lib.hid ((Fr.refl w.heap.size [] w).alloc (Nat.le_refl _) (.cells #[.int .i64 x.1, .int .i64 x.2] 42))
  have s1 := cen_small x.1
  have s2 := cen_small x.2
  have HN := Lib.hid (number_any x.1 x.2)
  have o1 := isf_order (isf_int (n := cen x.1) (by omega)) (isf_int (n := 0) (by decide))
  have o2 := isf_order (isf_int (n := cen x.2) (by omega)) (isf_int (n := 0) (by decide))
  rw [float_zero] at o1 o2
  obtain ⟨v, hv⟩ : ∃ v, v = decide (cen x.1 = 0 ∧ cen x.2 = 0) := ⟨_, rfl⟩
  have heq : ∀ w, (binOp .eql 259 (.complex .f64 (floatOfInt .f64 (cen x.1)) (floatOfInt .f64 (cen x.2))) (.complex .f64 0 0)).run Tryz.prog w = .ok (.bool v) w := fun w => by
    have e1 : (compare (cen x.1) 0 == Ordering.eq) = decide (cen x.1 = 0) := by
      rw [Bool.eq_iff_iff]; simp
    have e2 : (compare (cen x.2) 0 == Ordering.eq) = decide (cen x.2 = 0) := by
      rw [Bool.eq_iff_iff]; simp
    have hv2 : v = (decide (cen x.1 = 0) && decide (cen x.2 = 0)) := by rw [hv]; simp
    rw [hv2]
    have o1' : FloatKind.f64.format.order (floatOfInt .f64 (cen x.1)) 0 = some (compare (cen x.1) 0) := o1
    have o2' : FloatKind.f64.format.order (floatOfInt .f64 (cen x.2)) 0 = some (compare (cen x.2) 0) := o2
    simp [binOp, Op.complexOp, Op.Complex.cmp, Op.floatCmp, asBool, o1', o2', e1, e2]
  rw [← hv]
  have HE := Lib.hid heq
  clear heq s1 s2 o1 o2 hv
  have HN2 : RowKit.Hid (∀ w, Calls Tryz.prog 187 #[.agg #[.int .i64 x.1, .int .i64 x.2]] w fun e w' => e = .returned (.complex .f64 (floatOfInt .f64 (cen x.1)) (floatOfInt .f64 (cen x.2))) ∧ Fr w.heap.size [] w w') := HN
  generalize floatOfInt .f64 (cen x.1) = fa at *
  generalize floatOfInt .f64 (cen x.2) = fb at *
  go_enter Tryz.func184, Tryz.ntmps184
  go_upto_region 1 with fail
  generalize w.alloc (.cells #[.int .i64 x.1, .int .i64 x.2] 42) = wa at *
  have x0 := BA.out.cell 0
  have x1 := BA.out.cell 1
  simp at x0 x1
  have heq := HE.out
  go_wp2_with fail
  refine (HN2.out _).mono ?_
  rintro e w1 ⟨rfl, f1⟩
  have F1 := Lib.hid (F0.out.trans (f1.mono (B' := w.heap.size) (L' := []) F0.out.size (by simp)))
  clear f1 x0 x1
  go_wp2_with fail
  go_ret
  exact ⟨rfl, F1.out⟩
end Go.Proofs.YthfibggbipkmfaaGreat
namespace Go.Proofs.YthfibggbipkmfaaGreat
open Go.RowKit Go.Fb
set_option linter.unusedVariables false
def lessV (x y : Int × Int) : Bool := decide (cen x.1 < cen y.1)
set_option maxRecDepth 100000 in
set_option maxHeartbeats 2000000 in
theorem gless_any (x y : Int × Int) (w : World) : Calls Tryz.prog 191 #[.agg #[.int .i64 x.1, .int .i64 x.2], .agg #[.int .i64 y.1, .int .i64 y.2]] w fun e w' => e = .returned (.bool (lessV x y)) ∧ Fr w.heap.size [] w w' := by
  have BA := ((Blk.new w 42 #[.int .i64 x.1, .int .i64 x.2]).alloc (.cells #[.int .i64 y.1, .int .i64 y.2] 42))
  have BB := (Blk.new (w.alloc (.cells #[.int .i64 x.1, .int .i64 x.2] 42)) 42 #[.int .i64 y.1, .int .i64 y.2])
  have f0 := (((Fr.refl w.heap.size [] w).alloc (Nat.le_refl _) (.cells #[.int .i64 x.1, .int .i64 x.2] 42)).alloc (by simp) (.cells #[.int .i64 y.1, .int .i64 y.2] 42))
  rw [World.size_alloc] at BB
  have BA := Lib.hid BA
  have BB := Lib.hid BB
  have F0 := Lib.hid f0
  clear f0
  have s1 := cen_small x.1
  have s3 := cen_small y.1
  have o1 := isf_order (isf_int (n := cen x.1) (by omega)) (isf_int (n := cen y.1) (by omega))
  obtain ⟨v, hv⟩ : ∃ v, v = lessV x y := ⟨_, rfl⟩
  have HLT : RowKit.Hid ((FloatKind.f64.format.order (floatOfInt .f64 (cen x.1)) (floatOfInt .f64 (cen y.1)) == some Ordering.lt) = v) := Lib.hid (by
    have o1' : FloatKind.f64.format.order (floatOfInt .f64 (cen x.1)) (floatOfInt .f64 (cen y.1)) = some (compare (cen x.1) (cen y.1)) := o1
    rw [o1', hv, lessV, Bool.eq_iff_iff]; simp [Int.compare_eq_lt])
  rw [← hv]
  obtain ⟨F, hF⟩ : ∃ F : Int → Nat, ∀ n, F n = floatOfInt .f64 (cen n) := ⟨_, fun _ => rfl⟩
  have HNM := Lib.hid (fun (p q : Int) (w : World) => (by rw [hF, hF]; exact number_any p q w : Calls Tryz.prog 187 #[.agg #[.int .i64 p, .int .i64 q]] w fun e w' => e = .returned (.complex .f64 (F p) (F q)) ∧ Fr w.heap.size [] w w'))
  rw [← hF, ← hF] at HLT
  clear s1 s3 o1 hF hv
  go_enter Tryz.func191, Tryz.ntmps191
  go_upto_region 1 with fail
  generalize ((w.alloc (.cells #[.int .i64 x.1, .int .i64 x.2] 42)).alloc (.cells #[.int .i64 y.1, .int .i64 y.2] 42)) = wa at *
  have INV := Lib.hid ((Fr.refl wa.heap.size [] wa).drew)
  have SF := Lib.hid (fun (W : World) (hf : Fr wa.heap.size [] wa W) => (⟨(BA.out.fr hf BA.out.lt (by simp)).cell 0, (BA.out.fr hf BA.out.lt (by simp)).cell 1, (BB.out.fr hf BB.out.lt (by simp)).cell 0, (BB.out.fr hf BB.out.lt (by simp)).cell 1⟩ : W.cell? ⟨w.heap.size, 0, none⟩ = some (.int .i64 x.1) ∧ W.cell? ⟨w.heap.size, 1, none⟩ = some (.int .i64 x.2) ∧ W.cell? ⟨w.heap.size + 1, 0, none⟩ = some (.int .i64 y.1) ∧ W.cell? ⟨w.heap.size + 1, 1, none⟩ = some (.int .i64 y.2)))
  go_region_held3 (fun W => W.cell? ⟨w.heap.size, 0, none⟩ = some (.int .i64 x.1) ∧ W.cell? ⟨w.heap.size, 1, none⟩ = some (.int .i64 x.2) ∧ W.cell? ⟨w.heap.size + 1, 0, none⟩ = some (.int .i64 y.1) ∧ W.cell? ⟨w.heap.size + 1, 1, none⟩ = some (.int .i64 y.2)) (exact SF.out _ INV.out)
    ((go_at_call 187; refine (HNM.out _ _ _).mono ?_; rintro e w' ⟨rfl, hf⟩; have INV := Lib.hid (INV.out.trans (hf.mono INV.out.size (by simp))); clear hf))
  all_goals
    have F3 := F0.out.trans (INV.out.mono (B' := w.heap.size) (L' := []) F0.out.size (by simp))
    go_wp2_with fail
    go_ret
    exact ⟨by rw [← HLT.out]; rfl, F3⟩
end Go.Proofs.YthfibggbipkmfaaGreat
namespace Go.Proofs.YthfibggbipkmfaaGreat
open Go.RowKit Go.Fb
set_option linter.unusedVariables false
/-- A machine: what it put out, its cells, its steps, what comes, where it is, its stack (the top last). -/
structure MS where
  o : List (Int × Int)
  c : (Int × Int) × (Int × Int)
  st : Int
  x : Int × Int
  at_ : Nat
  s : List (Int × Int)
def topV (s : List (Int × Int)) : Int × Int := s.getLastD (0, 0)
def zeroV (v : Int × Int) : Bool := decide (cen v.1 = 0 ∧ cen v.2 = 0)
def opV (o : Int) (x y : Int × Int) : Int × Int := if o = 6 then sumV [x, y] else if o = 7 then subV x y else if o = 8 then prodV [x, y] else if lessV x y then (1, 0) else (0, 0)
def twoM (o : Int) (S : MS) : MS := { S with s := S.s.dropLast.dropLast ++ [opV o (topV S.s.dropLast) (topV S.s)] }
def topM (o : Int) (S : MS) : MS :=
  if o = 9 then { S with s := S.s.dropLast ++ [conjV (topV S.s)] }
  else if o = 10 then { S with s := S.s.dropLast ++ [turnV (topV S.s)] }
  else if o = 11 then { S with s := S.s.dropLast ++ [topV S.s] ++ [topV S.s] }
  else if o = 12 then { S with s := S.s.dropLast.dropLast ++ [topV S.s] ++ [topV S.s.dropLast] }
  else if o = 14 then { S with s := S.s.dropLast, o := S.o ++ [topV S.s] }
  else { S with s := S.s.dropLast }
def pushM (v : Int × Int) (S : MS) : MS := { S with s := S.s ++ [v] }
def cellM (a : Int) (S : MS) : Int × Int := if a = 0 then S.c.1 else S.c.2
def storeM (a : Int) (S : MS) : MS := { S with s := S.s.dropLast, c := if a = 0 then (topV S.s, S.c.2) else (S.c.1, topV S.s) }
def jumpM (a : Int) (S : MS) : MS := { S with at_ := S.at_ + a.toNat }
def jzM (a : Int) (S : MS) : MS := if zeroV (topV S.s) then jumpM a { S with s := S.s.dropLast } else { S with s := S.s.dropLast }
def actM (i : Int × Int) (S : MS) : MS :=
  if i.1 = 1 then pushM (i.2, 0) S
  else if i.1 = 2 then pushM (0, i.2) S
  else if i.1 = 3 then pushM S.x S
  else if i.1 = 4 then pushM (cellM i.2 S) S
  else if i.1 = 5 then storeM i.2 S
  else if i.1 = 15 then jzM i.2 S
  else if i.1 = 16 then jumpM i.2 S
  else if i.1 = 6 ∨ i.1 = 7 ∨ i.1 = 8 ∨ i.1 = 17 then twoM i.1 S
  else topM i.1 S
def nextM (S : MS) : MS := { S with at_ := S.at_ + 1, st := wrap64 (S.st + 1) }
def runF (p : List (Int × Int)) : Nat → MS → MS
  | 0, S => S
  | f + 1, S => match p[S.at_]? with
    | none => S
    | some i => if i.1 = 0 then nextM S else runF p f (actM i (nextM S))
theorem runF_end {p : List (Int × Int)} {S : MS} (h : p.length ≤ S.at_) : ∀ f, runF p f S = S
  | 0 => rfl
  | f + 1 => by unfold runF; rw [List.getElem?_eq_none h]
/-- What the check found of a safe program. -/
structure SafeD (l : List (Int × Int)) (D : Nat → Int) : Prop where
  fit : l.length ≤ 24 ∧ ∀ i ∈ l, rightB i = true
  zero : l ≠ [] → D 0 = 0
  step : ∀ (k : Nat) (i : Int × Int), l[k]? = some i → D k ≠ -1 → takesF i.1 ≤ D k ∧ (i.1 ≠ 0 → D k - takesF i.1 + leavesF i.1 ≤ 8) ∧ ∀ t ∈ nextsF l.length k i, t < l.length → D t = D k - takesF i.1 + leavesF i.1
theorem come_mono {n : Nat} {s s' : CS} {t : Nat} {d e : Int} (h : comeF n s t d e = some s') (x : Nat) (hx : s.D x ≠ -1) : s'.D x = s.D x := by
  unfold comeF at h
  split at h
  · cases h
  · split at h
    · injection h with h; subst h; rfl
    · split at h
      · cases h
      · rename_i h3
        injection h with h; subst h
        simp only [updC]
        split
        · rename_i e; subst e
          apply Classical.byContradiction
          intro c
          exact h3 ⟨hx, fun e => c e.symm⟩
        · rfl
theorem come_set {n : Nat} {s s' : CS} {t : Nat} {d e : Int} (h : comeF n s t d e = some s') : d ≤ 8 ∧ (t ≠ n → s'.D t = d) := by
  unfold comeF at h
  split at h
  · cases h
  · rename_i h1
    refine ⟨by omega, fun ht => ?_⟩
    rw [if_neg ht] at h
    split at h
    · cases h
    · injection h with h; subst h
      simp [updC]
theorem come_other {n : Nat} {s s' : CS} {t : Nat} {d e : Int} (h : comeF n s t d e = some s') (x : Nat) (hx : x ≠ t) : s'.D x = s.D x := by
  unfold comeF at h
  split at h
  · cases h
  · split at h
    · injection h with h; subst h; rfl
    · split at h
      · cases h
      · injection h with h; subst h
        simp [updC, hx]
theorem comes_mono {n : Nat} {d e : Int} : ∀ (l : List Nat) {s s' : CS}, comesF n d e l s = some s' → ∀ x, s.D x ≠ -1 → s'.D x = s.D x
  | [], s, s', h, x, hx => by injection h with h; subst h; rfl
  | t :: l, s, s', h, x, hx => by
    unfold comesF at h
    split at h
    · cases h
    · rename_i s1 h1
      have := come_mono h1 x hx
      rw [comes_mono l h x (by rw [this]; exact hx), this]
theorem comes_other {n : Nat} {d e : Int} : ∀ (l : List Nat) {s s' : CS}, comesF n d e l s = some s' → ∀ x, x ∉ l → s'.D x = s.D x
  | [], s, s', h, x, hx => by injection h with h; subst h; rfl
  | t :: l, s, s', h, x, hx => by
    unfold comesF at h
    split at h
    · cases h
    · rename_i s1 h1
      rw [comes_other l h x (fun c => hx (by simp [c])), come_other h1 x (fun c => hx (by simp [c]))]
theorem comes_set {n : Nat} {d e : Int} (hd : 0 ≤ d) : ∀ (l : List Nat) {s s' : CS}, comesF n d e l s = some s' → (l ≠ [] → d ≤ 8) ∧ ∀ t ∈ l, t ≠ n → s'.D t = d
  | [], s, s', h => ⟨fun h => absurd rfl h, fun t ht => by cases ht⟩
  | t :: l, s, s', h => by
    unfold comesF at h
    split at h
    · cases h
    · rename_i s1 h1
      obtain ⟨a, b⟩ := come_set h1
      obtain ⟨_, c⟩ := comes_set hd l h
      refine ⟨fun _ => a, fun u hu hn => ?_⟩
      rcases List.mem_cons.1 hu with e | e
      · subst e
        rw [comes_mono l h u (by rw [b hn]; omega), b hn]
      · exact c u e hn
theorem nextsM_gt {n k : Nat} (hk : k < n) {i : Int × Int} (hi : i.1 = 15 ∨ i.1 = 16 → 1 ≤ i.2) : ∀ t ∈ nextsF n k i, k < t := by
  intro t ht
  unfold nextsF farF at ht
  split at ht
  · cases ht
  · split at ht
    · rename_i h; simp at ht; omega
    · split at ht
      · rename_i h; simp at ht; omega
      · simp at ht; omega
theorem check_law {n : Nat} {p : Nat → Int × Int} (hp : ∀ k, k < n → ((p k).1 = 15 ∨ (p k).1 = 16 → 1 ≤ (p k).2)) : ∀ (m : Nat) {s : CS}, m ≤ n → checkF n p m = some s → (0 < n → s.D 0 = 0) ∧ (∀ k, k < m → s.D k ≠ -1 → takesF (p k).1 ≤ s.D k ∧ ((p k).1 ≠ 0 → s.D k - takesF (p k).1 + leavesF (p k).1 ≤ 8) ∧ ∀ t ∈ nextsF n k (p k), t < n → s.D t = s.D k - takesF (p k).1 + leavesF (p k).1)
  | 0, s, _, h => by
    injection h with h; subst h
    refine ⟨fun hn => ?_, fun k hk => by omega⟩
    simp only [startF]
    rw [if_neg (by omega)]; simp
  | m + 1, s, hm, h => by
    unfold checkF at h
    split at h
    · cases h
    · rename_i s1 h1
      obtain ⟨h0, hl⟩ := check_law hp m (by omega) h1
      split at h
      · rename_i hd
        injection h with h; subst h
        refine ⟨h0, fun k hk hne => ?_⟩
        rcases Nat.lt_or_ge k m with c | c
        · exact hl k c hne
        · have : k = m := by omega
          subst this
          exact absurd hd hne
      · rename_i hd
        unfold stepF at h
        split at h
        · cases h
        · rename_i ht
          have hlr := leavesF_range (p m).1
          have hU : (useF s1 (p m)).D = s1.D := use_D s1 (p m)
          have hmono : ∀ x, s1.D x ≠ -1 → s.D x = s1.D x := fun x hx => by rw [comes_mono _ h x (by rw [hU]; exact hx), hU]
          have hoth : ∀ x, x ≤ m → s.D x = s1.D x := fun x hx => by
            rw [comes_other _ h x (fun c => by have := nextsM_gt (by omega) (hp m (by omega)) x c; omega), hU]
          obtain ⟨hle, hset⟩ := comes_set (by omega) _ h
          refine ⟨fun hn => by rw [hmono 0 (by rw [h0 hn]; decide), h0 hn], fun k hk hne => ?_⟩
          rw [hoth k (by omega)] at hne ⊢
          rcases Nat.lt_or_ge k m with c | c
          · obtain ⟨a, b, d⟩ := hl k c hne
            refine ⟨a, b, fun t ht2 htn => ?_⟩
            have e := d t ht2 htn
            have := leavesF_range (p k).1
            rw [hmono t (by rw [e]; omega), e]
          · have : k = m := by omega
            subst this
            refine ⟨by omega, fun h0' => hle ?_, fun t ht2 htn => hset t ht2 (by omega)⟩
            unfold nextsF
            rw [if_neg h0']
            split
            · simp
            · split <;> simp
theorem right_jump {i : Int × Int} (h : rightB i = true) : (0 ≤ i.1 ∧ i.1 < 18) ∧ ((i.1 = 15 ∨ i.1 = 16) → 1 ≤ i.2 ∧ i.2 ≤ 24) ∧ ((i.1 = 4 ∨ i.1 = 5) → 0 ≤ i.2 ∧ i.2 ≤ 1) ∧ ((i.1 = 1 ∨ i.1 = 2) → -524288 ≤ i.2 ∧ i.2 < 524288) := by
  unfold rightB boF boT at h
  simp at h
  obtain ⟨h1, h2, h3, h4⟩ := h
  refine ⟨⟨h1, h2⟩, fun c => ?_, fun c => ?_, fun c => ?_⟩
  · rw [if_neg (by omega), if_neg (by omega), if_pos c] at h3 h4; omega
  · rw [if_neg (by omega), if_pos c] at h3 h4; omega
  · rw [if_pos c] at h3 h4; omega
theorem safe_of {l : List (Int × Int)} {s : CS} (h : chkL l = some s) : SafeD l s.D := by
  obtain ⟨hf, hc⟩ := chkL_some h
  obtain ⟨h24, hr⟩ := fitsB_iff.1 hf
  have hp : ∀ k, k < l.length → ((pF l k).1 = 15 ∨ (pF l k).1 = 16 → 1 ≤ (pF l k).2) := fun k hk c => by
    have hx : l[k]? = some l[k] := List.getElem?_eq_getElem hk
    have := pF_of hx
    rw [this] at c ⊢
    exact ((right_jump (hr _ (List.getElem_mem hk))).2.1 c).1
  obtain ⟨h0, hl⟩ := check_law hp l.length (Nat.le_refl _) hc
  refine ⟨⟨h24, hr⟩, fun hne => h0 (List.length_pos_iff.2 hne), fun k i hi hd => ?_⟩
  have hk : k < l.length := (List.getElem?_eq_some_iff.1 hi).1
  have := hl k hk hd
  rw [pF_of hi] at this
  exact this
/-- A value that may be. -/
def vOk (v : Int × Int) : Prop := valB v.1 v.2 = true
instance (v : Int × Int) : Decidable (vOk v) := inferInstanceAs (Decidable (_ = true))
theorem vOk_iff (v : Int × Int) : vOk v ↔ (-524288 ≤ v.1 ∧ v.1 < 524288 ∧ -524288 ≤ v.2 ∧ v.2 < 524288) := by unfold vOk valB; simp
theorem vOk_cen (a b : Int) : vOk (cen a, cen b) := by rw [vOk_iff]; have := cen_small a; have := cen_small b; simp only; omega
/-- What holds of a machine of a safe program. -/
structure MInv (l : List (Int × Int)) (D : Nat → Int) (S : MS) : Prop where
  dep : S.at_ < l.length → D S.at_ = S.s.length
  small : S.s.length ≤ 8
  at_ : S.at_ ≤ 49
  x : vOk S.x
  c : vOk S.c.1 ∧ vOk S.c.2
  s : ∀ v ∈ S.s, vOk v
  o : ∀ v ∈ S.o, vOk v
theorem topV_mem {s : List (Int × Int)} (h : s ≠ []) : topV s ∈ s := by
  unfold topV
  rw [List.getLastD_eq_getLast?, List.getLast?_eq_some_getLast h]
  exact List.getLast_mem h
theorem vOk_top {s : List (Int × Int)} (h : ∀ v ∈ s, vOk v) : vOk (topV s) := by
  by_cases e : s = []
  · subst e; decide
  · exact h _ (topV_mem e)
theorem drop_ok {s : List (Int × Int)} (h : ∀ v ∈ s, vOk v) : ∀ v ∈ s.dropLast, vOk v := fun v hv => h v (List.dropLast_subset s hv)
theorem snoc_ok {s : List (Int × Int)} {x : Int × Int} (h : ∀ v ∈ s, vOk v) (hx : vOk x) : ∀ v ∈ s ++ [x], vOk v := by
  intro v hv
  rcases List.mem_append.1 hv with c | c
  · exact h v c
  · rw [List.mem_singleton.1 c]; exact hx
theorem sum_ok (l : List (Int × Int)) : ∀ (a : Int × Int), vOk a → vOk (l.foldl addV a) := by
  induction l with
  | nil => exact fun a h => h
  | cons x t ih => exact fun a _ => ih _ (vOk_cen _ _)
theorem prod_ok (l : List (Int × Int)) : ∀ (a : Int × Int), vOk a → vOk (l.foldl mulV a) := by
  induction l with
  | nil => exact fun a h => h
  | cons x t ih => exact fun a _ => ih _ (vOk_cen _ _)
theorem op_ok (o : Int) (x y : Int × Int) : vOk (opV o x y) := by
  unfold opV
  split
  · exact sum_ok _ _ (by decide)
  · split
    · exact vOk_cen _ _
    · split
      · exact prod_ok _ _ (by decide)
      · split <;> decide
theorem takes_of (o : Int) : takesF o = (if o = 5 ∨ o = 13 ∨ o = 14 ∨ o = 15 ∨ o = 9 ∨ o = 10 ∨ o = 11 then 1 else if o = 6 ∨ o = 7 ∨ o = 8 ∨ o = 17 ∨ o = 12 then 2 else 0) := rfl
theorem leaves_of (o : Int) : leavesF o = (if o = 11 ∨ o = 12 then 2 else if (1 ≤ o ∧ o ≤ 4) ∨ (6 ≤ o ∧ o ≤ 10) ∨ o = 17 then 1 else 0) := rfl
/-- What an act leaves on the stack. -/
theorem act_len {i : Int × Int} {S : MS} (h0 : i.1 ≠ 0) (hr : 0 ≤ i.1 ∧ i.1 < 18) (ht : takesF i.1 ≤ S.s.length) : ((actM i S).s.length : Int) = S.s.length - takesF i.1 + leavesF i.1 := by
  have hi : i.1 = 1 ∨ i.1 = 2 ∨ i.1 = 3 ∨ i.1 = 4 ∨ i.1 = 5 ∨ i.1 = 6 ∨ i.1 = 7 ∨ i.1 = 8 ∨ i.1 = 9 ∨ i.1 = 10 ∨ i.1 = 11 ∨ i.1 = 12 ∨ i.1 = 13 ∨ i.1 = 14 ∨ i.1 = 15 ∨ i.1 = 16 ∨ i.1 = 17 := by omega
  rcases hi with e | e | e | e | e | e | e | e | e | e | e | e | e | e | e | e | e <;> simp [takes_of, leaves_of, actM, e, pushM, storeM, jumpM, jzM, twoM, topM] at ht ⊢ <;> (try split) <;> (try simp) <;> omega
theorem top_cases (P : MS → Prop) {o : Int} {S : MS} (h9 : P { S with s := S.s.dropLast ++ [conjV (topV S.s)] }) (h10 : P { S with s := S.s.dropLast ++ [turnV (topV S.s)] }) (h11 : P { S with s := S.s.dropLast ++ [topV S.s] ++ [topV S.s] }) (h12 : P { S with s := S.s.dropLast.dropLast ++ [topV S.s] ++ [topV S.s.dropLast] }) (h14 : P { S with s := S.s.dropLast, o := S.o ++ [topV S.s] }) (h : P { S with s := S.s.dropLast }) : P (topM o S) := by
  unfold topM
  by_cases c9 : o = 9
  · rw [if_pos c9]; exact h9
  · rw [if_neg c9]
    by_cases c10 : o = 10
    · rw [if_pos c10]; exact h10
    · rw [if_neg c10]
      by_cases c11 : o = 11
      · rw [if_pos c11]; exact h11
      · rw [if_neg c11]
        by_cases c12 : o = 12
        · rw [if_pos c12]; exact h12
        · rw [if_neg c12]
          by_cases c14 : o = 14
          · rw [if_pos c14]; exact h14
          · rw [if_neg c14]; exact h
theorem act_cases (P : MS → Prop) {i : Int × Int} {S : MS} (h1 : i.1 = 1 → P (pushM (i.2, 0) S)) (h2 : i.1 = 2 → P (pushM (0, i.2) S)) (h3 : P (pushM S.x S)) (h4 : P (pushM (cellM i.2 S) S)) (h5 : P (storeM i.2 S)) (h15 : i.1 = 15 → P (jzM i.2 S)) (h16 : i.1 = 16 → P (jumpM i.2 S)) (h6 : P (twoM i.1 S)) (h : P (topM i.1 S)) : P (actM i S) := by
  unfold actM
  by_cases c1 : i.1 = 1
  · rw [if_pos c1]; exact h1 c1
  rw [if_neg c1]
  by_cases c2 : i.1 = 2
  · rw [if_pos c2]; exact h2 c2
  rw [if_neg c2]
  by_cases c3 : i.1 = 3
  · rw [if_pos c3]; exact h3
  rw [if_neg c3]
  by_cases c4 : i.1 = 4
  · rw [if_pos c4]; exact h4
  rw [if_neg c4]
  by_cases c5 : i.1 = 5
  · rw [if_pos c5]; exact h5
  rw [if_neg c5]
  by_cases c15 : i.1 = 15
  · rw [if_pos c15]; exact h15 c15
  rw [if_neg c15]
  by_cases c16 : i.1 = 16
  · rw [if_pos c16]; exact h16 c16
  rw [if_neg c16]
  split
  · exact h6
  · exact h
theorem act_at {i : Int × Int} {S : MS} : (actM i S).at_ = S.at_ ∨ ((i.1 = 15 ∨ i.1 = 16) ∧ (actM i S).at_ = S.at_ + i.2.toNat) := by
  refine act_cases (fun X => X.at_ = S.at_ ∨ ((i.1 = 15 ∨ i.1 = 16) ∧ X.at_ = S.at_ + i.2.toNat)) (fun _ => .inl rfl) (fun _ => .inl rfl) (.inl rfl) (.inl rfl) (.inl rfl) (fun c => ?_) (fun c => .inr ⟨.inr c, rfl⟩) (.inl rfl) ?_
  · unfold jzM
    split
    · exact .inr ⟨.inl c, rfl⟩
    · exact .inl rfl
  · exact top_cases (fun X => X.at_ = S.at_ ∨ ((i.1 = 15 ∨ i.1 = 16) ∧ X.at_ = S.at_ + i.2.toNat)) (.inl rfl) (.inl rfl) (.inl rfl) (.inl rfl) (.inl rfl) (.inl rfl)
theorem act_x {i : Int × Int} {S : MS} : (actM i S).x = S.x := by
  refine act_cases (fun X => X.x = S.x) (fun _ => rfl) (fun _ => rfl) rfl rfl rfl (fun c => ?_) (fun c => rfl) rfl ?_
  · unfold jzM
    split <;> rfl
  · exact top_cases (fun X => X.x = S.x) rfl rfl rfl rfl rfl rfl
theorem act_ok {i : Int × Int} {S : MS} (hr : rightB i = true) (hx : vOk S.x) (hc : vOk S.c.1 ∧ vOk S.c.2) (hs : ∀ v ∈ S.s, vOk v) (ho : ∀ v ∈ S.o, vOk v) : (vOk (actM i S).c.1 ∧ vOk (actM i S).c.2) ∧ (∀ v ∈ (actM i S).s, vOk v) ∧ (∀ v ∈ (actM i S).o, vOk v) := by
  have hd := drop_ok hs
  have hdd := drop_ok hd
  have ht := vOk_top hs
  have htd := vOk_top hd
  have hpush := (right_jump hr).2.2.2
  refine act_cases (fun X => (vOk X.c.1 ∧ vOk X.c.2) ∧ (∀ v ∈ X.s, vOk v) ∧ (∀ v ∈ X.o, vOk v)) (fun c => ⟨hc, snoc_ok hs ?_, ho⟩) (fun c => ⟨hc, snoc_ok hs ?_, ho⟩) ⟨hc, snoc_ok hs hx, ho⟩ ⟨hc, snoc_ok hs ?_, ho⟩ ⟨?_, hd, ho⟩ (fun c => ?_) (fun c => ⟨hc, hs, ho⟩) ⟨hc, snoc_ok hdd (op_ok _ _ _), ho⟩ ?_
  · have := hpush (.inl c); rw [vOk_iff]; simp only; omega
  · have := hpush (.inr c); rw [vOk_iff]; simp only; omega
  · unfold cellM; split
    · exact hc.1
    · exact hc.2
  · unfold storeM
    by_cases e : i.2 = 0
    · simp only [if_pos e]; exact ⟨ht, hc.2⟩
    · simp only [if_neg e]; exact ⟨hc.1, ht⟩
  · unfold jzM
    split
    · exact ⟨hc, hd, ho⟩
    · exact ⟨hc, hd, ho⟩
  · exact top_cases (fun X => (vOk X.c.1 ∧ vOk X.c.2) ∧ (∀ v ∈ X.s, vOk v) ∧ (∀ v ∈ X.o, vOk v)) ⟨hc, snoc_ok hd (vOk_cen _ _), ho⟩ ⟨hc, snoc_ok hd (vOk_cen _ _), ho⟩ ⟨hc, snoc_ok (snoc_ok hd ht) ht, ho⟩ ⟨hc, snoc_ok (snoc_ok hdd ht) htd, ho⟩ ⟨hc, hd, snoc_ok ho ht⟩ ⟨hc, hd, ho⟩
theorem MInv.act {l : List (Int × Int)} {D : Nat → Int} {S : MS} (I : MInv l D S) (P : SafeD l D) {i : Int × Int} (hi : l[S.at_]? = some i) (h0 : i.1 ≠ 0) : MInv l D (actM i (nextM S)) ∧ takesF i.1 ≤ (S.s.length : Int) := by
  have hk : S.at_ < l.length := (List.getElem?_eq_some_iff.1 hi).1
  have h24 := P.fit.1
  have hr := P.fit.2 i (List.mem_of_getElem? hi)
  have hd := I.dep hk
  obtain ⟨h1, h2, h3⟩ := P.step S.at_ i hi (by rw [hd]; omega)
  rw [hd] at h1 h2 h3
  obtain ⟨j1, j2, j3, j4⟩ := right_jump hr
  have hlen := act_len (S := nextM S) h0 j1 h1
  have hs1 : (nextM S).s = S.s := rfl
  rw [hs1] at hlen
  obtain ⟨k1, k2, k3⟩ := act_ok (S := nextM S) hr I.x I.c I.s I.o
  refine ⟨⟨fun hlt => ?_, ?_, ?_, by rw [act_x]; exact I.x, k1, k2, k3⟩, h1⟩
  · rw [hlen]
    refine h3 _ ?_ hlt
    rcases act_at (i := i) (S := nextM S) with e | ⟨c, e⟩
    · rw [e]
      by_cases c16 : i.1 = 16
      · exfalso
        have : (actM i (nextM S)).at_ = S.at_ + 1 + i.2.toNat := by simp [actM, c16, jumpM, nextM]
        rw [e] at this
        have h5 : (nextM S).at_ = S.at_ + 1 := rfl
        have := j2 (.inr c16)
        omega
      · unfold nextsF
        rw [if_neg h0, if_neg c16]
        split <;> simp [nextM]
    · have h5 : (nextM S).at_ = S.at_ + 1 := rfl
      rw [e, h5] at hlt ⊢
      have hf : S.at_ + 1 + i.2.toNat = farF l.length S.at_ i.2 := by unfold farF; omega
      rw [hf]
      unfold nextsF
      rw [if_neg h0]
      split
      · simp
      · rw [if_pos (by omega)]; simp
  · have := h2 h0
    omega
  · have h5 : (nextM S).at_ = S.at_ + 1 := rfl
    rcases act_at (i := i) (S := nextM S) with e | ⟨c, e⟩
    · omega
    · have := j2 c; omega
end Go.Proofs.YthfibggbipkmfaaGreat
namespace Go.Proofs.YthfibggbipkmfaaGreat
open Go.RowKit Go.Fb
end Go.Proofs.YthfibggbipkmfaaGreat
