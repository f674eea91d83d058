/- Texts merged into one, for the number of files a claim may have: CtA, CtB, CtP, PfA, PfB, PfC, PfP. -/
import Derived.Test.YthfibggbipkmfaaGreatDX6
import Derived.Test.YthfibggbipkmfaaGreatDX8
import Derived.Deep.DeepCutAuto
import Derived.Deep.RegionHeld3
import Derived.Laws.EntriesVeiled
import Derived.Maps.RangeRun
namespace Go.Proofs.YthfibggbipkmfaaGreat
open Go.RowKit Go.Fb
set_option linter.unusedVariables false
set_option maxRecDepth 100000 in
theorem valcmp_d (d : Nat) (a b c e : Int) (w : World) : (Op.equalIn (d + 2) 42 (.agg #[.int .i64 a, .int .i64 b]) (.agg #[.int .i64 c, .int .i64 e])).run Tryz.prog w = .ok (a == c && b == e) w := by
  rw [run_equalIn_struct w (d + 1) 42 _ _ (by kernel_rfl) (by kernel_rfl)]
  simp [Program.fieldsOf, Tryz.underlying42]
  by_cases h1 : a = c
  · by_cases h2 : b = e <;> simp [Op.eqFields, part, isAgg, run_underlying Tryz.underlying3, run_equalIn_int w d 3 .i64 .i64 _ _ Tryz.underlying3, h1, h2]
  · simp [Op.eqFields, part, isAgg, run_underlying Tryz.underlying3, run_equalIn_int w d 3 .i64 .i64 _ _ Tryz.underlying3, h1]
theorem cv_beq (x y : CV) : ((x.1 == y.1 && x.2.1 == y.2.1) && (x.2.2.1 == y.2.2.1 && x.2.2.2 == y.2.2.2)) = decide (x = y) := by
  obtain ⟨a, b, c, d⟩ := x
  obtain ⟨a', b', c', d'⟩ := y
  rw [Bool.eq_iff_iff]
  simp [and_assoc]
set_option maxRecDepth 100000 in
theorem cv_eqd (d : Nat) (x y : CV) (w : World) : (Op.equalIn (d + 3) 76 (cvV x) (cvV y)).run Tryz.prog w = .ok (decide (x = y)) w := by
  obtain ⟨i, hi, hz, hsz, hby⟩ := info_parts valinfo
  rw [run_equalIn_array w (d + 2) _ _ Tryz.underlying76 hi]
  have hc : Tryz.prog.cellsOf 42 = 2 := by kernel_rfl
  have hsO : ∀ w, (sizeOf 42).run Tryz.prog w = .ok 2 w := fun w => by kernel_rfl
  have p0 : ∀ (z : CV) w, (part 42 #[.int .i64 z.1, .int .i64 z.2.1, .int .i64 z.2.2.1, .int .i64 z.2.2.2] 0).run Tryz.prog w = .ok (.agg #[.int .i64 z.1, .int .i64 z.2.1]) w := fun z w => by
    simp [part, isAgg, run_underlying Tryz.underlying42, hsO]
  have p1 : ∀ (z : CV) w, (part 42 #[.int .i64 z.1, .int .i64 z.2.1, .int .i64 z.2.2.1, .int .i64 z.2.2.2] 2).run Tryz.prog w = .ok (.agg #[.int .i64 z.2.2.1, .int .i64 z.2.2.2]) w := fun z w => by
    simp [part, isAgg, run_underlying Tryz.underlying42, hsO]
  have key : ∀ v1 v2 : Bool, (x.1 == y.1 && x.2.1 == y.2.1) = v1 → (x.2.2.1 == y.2.2.1 && x.2.2.2 == y.2.2.2) = v2 → (Op.eqItems (d + 2) 42 2 #[.int .i64 x.1, .int .i64 x.2.1, .int .i64 x.2.2.1, .int .i64 x.2.2.2] #[.int .i64 y.1, .int .i64 y.2.1, .int .i64 y.2.2.1, .int .i64 y.2.2.2] [0, 1]).run Tryz.prog w = .ok (v1 && v2) w := by
    intro v1 v2 h1 h2
    have e1 := valcmp_d d x.1 x.2.1 y.1 y.2.1 w
    have e2 := valcmp_d d x.2.2.1 x.2.2.2 y.2.2.1 y.2.2.2 w
    rw [h1] at e1
    rw [h2] at e2
    cases v1 <;> cases v2 <;> simp [Op.eqItems, p0, p1, e1, e2]
  have k := key _ _ rfl rfl
  rw [cv_beq] at k
  simpa [hc, List.range_succ] using k
theorem cv_eq (x y : CV) (w : World) : (binOp .eql 76 (cvV x) (cvV y)).run Tryz.prog w = .ok (.bool (decide (x = y))) w := by
  simp [binOp, Op.equal, Op.maxDepth, cv_eqd]
/-- May a place be; may its cells? -/
def thereB (p : Pk) : Bool := decide (0 ≤ p.1 ∧ p.1 < 8 ∧ 0 ≤ p.2 ∧ p.2 < 64)
def cvB (c : CV) : Bool := valB c.1 c.2.1 && valB c.2.2.1 c.2.2.2
def setB2 (p : Pk) (c : CV) : Bool := thereB p && cvB c
set_option maxRecDepth 100000 in
theorem there_any (a k : Int) (w : World) : Calls Tryz.prog 53 #[.int .i64 a, .int .i64 k] w fun e w' => e = .returned (.bool (thereB (a, k))) ∧ w = w' := by
  obtain ⟨v, hv⟩ : ∃ v, v = thereB (a, k) := ⟨_, rfl⟩
  rw [← hv]
  unfold thereB at hv
  simp only at hv
  by_cases h1 : 0 ≤ a
  · by_cases h2 : a < 8
    · by_cases h3 : 0 ≤ k
      · by_cases h4 : k < 64
        · rw [decide_eq_true ⟨h1, h2, h3, h4⟩] at hv
          subst hv
          go_enter Tryz.func53, Tryz.ntmps53
          go_wp2_with fail
          go_ret
          exact ⟨rfl, rfl⟩
        · rw [decide_eq_false (fun h => h4 h.2.2.2)] at hv
          subst hv
          go_enter Tryz.func53, Tryz.ntmps53
          go_wp2_with fail
          go_ret
          exact ⟨rfl, rfl⟩
      · rw [decide_eq_false (fun h => h3 h.2.2.1)] at hv
        subst hv
        go_enter Tryz.func53, Tryz.ntmps53
        go_wp2_with fail
        go_ret
        exact ⟨rfl, rfl⟩
    · rw [decide_eq_false (fun h => h2 h.2.1)] at hv
      subst hv
      go_enter Tryz.func53, Tryz.ntmps53
      go_wp2_with fail
      go_ret
      exact ⟨rfl, rfl⟩
  · rw [decide_eq_false (fun h => h1 h.1)] at hv
    subst hv
    go_enter Tryz.func53, Tryz.ntmps53
    go_wp2_with fail
    go_ret
    exact ⟨rfl, rfl⟩
/-- A table in memory: the object at gt, its map at gm. -/
structure CT (w : World) (gt gm : Nat) (T : Pk → CV) : Prop where
  bk : Blk w gt 75 #[.map (some gm)]
  mp : KMap w gm T
theorem CT.fr {w w' : World} {gt gm B : Nat} {L : List Nat} {T : Pk → CV} (h : CT w gt gm T) (hf : Fr B L w w') (h1 : gt < B) (h2 : gt ∉ L) (h3 : gm < B) (h4 : gm ∉ L) : CT w' gt gm T := ⟨h.bk.fr hf h1 h2, h.mp.fr hf h3 h4⟩
theorem CT.keep {w w' : World} {gt gm : Nat} {T : Pk → CV} (h : CT w gt gm T) (hf : Fr w.heap.size [] w w') : CT w' gt gm T := h.fr hf h.bk.lt (by simp) h.mp.lt (by simp)
/-- What Set leaves. -/
def SetOut (gt gm : Nat) (T : Pk → CV) (p : Pk) (c : CV) (w : World) (e : Ending) (w' : World) : Prop :=
  e = .returned (.int .i64 (if setB2 p c then 0 else 1)) ∧ CT w' gt gm (if setB2 p c then updT T p c else T) ∧ Fr w.heap.size [gm] w w'
set_option maxRecDepth 100000 in
set_option maxHeartbeats 2000000 in
theorem ctset_any (gt gm : Nat) (T : Pk → CV) (p : Pk) (c : CV) (w : World) (h : CT w gt gm T) :
    Calls Tryz.prog 31 #[.pointer (some ⟨gt, 0, none⟩), .int .i64 p.1, .int .i64 p.2, cvV c] w (SetOut gt gm T p c w) := by
  have HT := Lib.hid (there_any p.1 p.2)
  have HG1 := Lib.hid (gright_any c.1 c.2.1)
  have HG2 := Lib.hid (gright_any c.2.2.1 c.2.2.2)
  have BC := Lib.hid (Blk.new w 76 #[.int .i64 c.1, .int .i64 c.2.1, .int .i64 c.2.2.1, .int .i64 c.2.2.2])
  have fa := (Fr.refl w.heap.size [] w).alloc (Nat.le_refl _) (.cells #[.int .i64 c.1, .int .i64 c.2.1, .int .i64 c.2.2.1, .int .i64 c.2.2.2] 76)
  have FA := Lib.hid fa
  have HCT := Lib.hid (h.keep fa)
  obtain ⟨w0, hw0⟩ : ∃ w0, w0 = w.alloc (.cells #[.int .i64 c.1, .int .i64 c.2.1, .int .i64 c.2.2.1, .int .i64 c.2.2.2] 76) := ⟨_, rfl⟩
  rw [← hw0] at BC FA HCT
  obtain ⟨g, hg⟩ : ∃ g, g = w.heap.size := ⟨_, rfl⟩
  rw [← hg] at BC
  have HG := Lib.hid hg
  have HW0 := Lib.hid hw0
  have hlm := h.mp.lt
  clear h fa hg hw0
  obtain ⟨vt, hvt⟩ : ∃ v, v = thereB p := ⟨_, rfl⟩
  obtain ⟨v1, hv1⟩ : ∃ v, v = valB c.1 c.2.1 := ⟨_, rfl⟩
  obtain ⟨v2, hv2⟩ : ∃ v, v = valB c.2.2.1 c.2.2.2 := ⟨_, rfl⟩
  have hS : setB2 p c = (vt && (v1 && v2)) := by unfold setB2 cvB; rw [← hvt, ← hv1, ← hv2]
  rw [show thereB (p.1, p.2) = vt from hvt.symm] at HT
  rw [← hv1] at HG1
  rw [← hv2] at HG2
  clear hvt hv1 hv2
  go_enter Tryz.func31, Tryz.ntmps31
  go_upto_region 2 with fail
  rw [← HW0.out, ← HG.out]
  have q0 := BC.out.cell 0
  have q1 := BC.out.cell 1
  have q2 := BC.out.cell 2
  have q3 := BC.out.cell 3
  simp at q0 q1 q2 q3
  go_wp2_with fail
  refine (HT.out _).mono ?_
  rintro e w1 ⟨rfl, rfl⟩
  cases vt with
  | false =>
    go_wp2_with fail
    go_ret
    rw [Bool.false_and] at hS
    exact ⟨by rw [hS]; rfl, by rw [hS]; exact HCT.out, FA.out.mono (by simp) (by simp)⟩
  | true => ?_
  rw [Bool.true_and] at hS
  go_wp2_with fail
  refine (HG1.out _).mono ?_
  rintro e w1 ⟨rfl, f1⟩
  have F1 := Lib.hid (FA.out.trans (f1.mono (B' := w.heap.size) (L' := []) FA.out.size (by simp)))
  have HC1 := Lib.hid (HCT.out.keep f1)
  have BC1 := Lib.hid (BC.out.fr f1 BC.out.lt (by simp))
  clear f1 q0 q1 q2 q3 HCT FA BC
  have q0 := BC1.out.cell 0
  have q1 := BC1.out.cell 1
  have q2 := BC1.out.cell 2
  have q3 := BC1.out.cell 3
  simp at q0 q1 q2 q3
  cases v1 with
  | false =>
    go_wp2_with fail
    go_ret
    rw [Bool.false_and] at hS
    exact ⟨by rw [hS]; rfl, by rw [hS]; exact HC1.out, F1.out.mono (by simp) (by simp)⟩
  | true => ?_
  rw [Bool.true_and] at hS
  go_wp2_with fail
  refine (HG2.out _).mono ?_
  rintro e w2 ⟨rfl, f2⟩
  have F2 := Lib.hid (F1.out.trans (f2.mono (B' := w.heap.size) (L' := []) F1.out.size (by simp)))
  have HC2 := Lib.hid (HC1.out.keep f2)
  have BC2 := Lib.hid (BC1.out.fr f2 BC1.out.lt (by simp))
  clear f2 q0 q1 q2 q3 HC1 F1 BC1
  have q0 := BC2.out.cell 0
  have q1 := BC2.out.cell 1
  have q2 := BC2.out.cell 2
  have q3 := BC2.out.cell 3
  simp at q0 q1 q2 q3
  cases v2 with
  | false =>
    go_wp2_with fail
    go_ret
    exact ⟨by rw [hS]; rfl, by rw [hS]; exact HC2.out, F2.out.mono (by simp) (by simp)⟩
  | true => ?_
  have t0 := HC2.out.bk.cell 0
  simp at t0
  have HS := Lib.hid hS
  clear hS
  by_cases hc : c = c0
  · have hcmp := fun w => cv_eq c c0 w
    rw [decide_eq_true hc] at hcmp
    obtain ⟨w3, hdel, hm3, f3, hs3⟩ := HC2.out.mp.del p
    have HM3 := Lib.hid hm3
    have F3 := Lib.hid f3
    have HC := Lib.hid hc
    clear hc hm3 f3 hs3
    simp only [c0, pkV, cvV] at hcmp hdel
    go_wp2_with fail
    go_ret
    have hgt : gt < w2.heap.size := HC2.out.bk.lt
    refine ⟨by rw [HS.out]; rfl, ?_, (F2.out.mono (by simp) (by simp)).trans (F3.out.mono F2.out.size (by simp))⟩
    rw [if_pos HS.out, HC.out]
    exact ⟨HC2.out.bk.fr F3.out hgt (by simp only [List.mem_singleton]; exact fun e => HC2.out.mp.ne HC2.out.bk e.symm), HM3.out⟩
  · have hcmp := fun w => cv_eq c c0 w
    rw [decide_eq_false hc] at hcmp
    simp only [c0, cvV] at hcmp
    have HC := Lib.hid hc
    clear hc
    go_wp2_with fail
    have HSD : KMap w2.drew gm T := HC2.out.mp.fr (Fr.refl w2.heap.size [] w2).drew HC2.out.mp.lt (by simp)
    obtain ⟨w3, hst, hm3, f3, hs3⟩ := HSD.store p c HC.out
    have HM3 := Lib.hid hm3
    have F3 := Lib.hid f3
    have td : w2.drew.cell? ⟨gt, 0, none⟩ = some (.map (some gm)) := t0
    clear hm3 f3 hs3 HSD
    simp only [pkV, cvV] at hst
    go_region_with fail
    all_goals
      go_wp2_with fail
      go_ret
      have hgt : gt < w2.heap.size := HC2.out.bk.lt
      refine ⟨by rw [HS.out]; rfl, ?_, (F2.out.drew.mono (by simp) (by simp)).trans (F3.out.mono F2.out.size (by simp))⟩
      rw [if_pos HS.out]
      exact ⟨(HC2.out.bk.drew).fr F3.out hgt (by simp only [List.mem_singleton]; exact fun e => HC2.out.mp.ne HC2.out.bk e.symm), HM3.out⟩
end Go.Proofs.YthfibggbipkmfaaGreat
namespace Go.Proofs.YthfibggbipkmfaaGreat
open Go.RowKit Go.Fb
set_option linter.unusedVariables false
def entP (x : Nat → Int) : Pk := (x 0, x 1)
def entV (x : Nat → Int) : CV := (x 2, x 3, x 4, x 5)
/-- The table that entries make, one behind the other; may all of them be? -/
def putT (T : Pk → CV) (x : Nat → Int) : Pk → CV := updT T (entP x) (entV x)
def tabL (l : List (Nat → Int)) : Pk → CV := l.foldl putT (fun _ => c0)
def okE (x : Nat → Int) : Bool := setB2 (entP x) (entV x)
theorem tabL_snoc (l : List (Nat → Int)) (x : Nat → Int) : tabL (l ++ [x]) = updT (tabL l) (entP x) (entV x) := by unfold tabL; rw [List.foldl_append]; rfl
/-- What New leaves. -/
def CNewOut (l : List (Nat → Int)) (w : World) (e : Ending) (w' : World) : Prop :=
  (l.all okE = false ∧ e = .returned (.tuple #[.pointer none, .int .i64 1]) ∧ Fr w.heap.size [] w w') ∨
  (l.all okE = true ∧ e = .returned (.tuple #[.pointer (some ⟨w.heap.size + 1, 0, none⟩), .int .i64 0]) ∧ CT w' (w.heap.size + 1) w.heap.size (tabL l) ∧ Fr w.heap.size [] w w')
set_option maxRecDepth 100000 in
set_option maxHeartbeats 2000000 in
theorem cnew_any (A : Option Addr) (n c B : Nat) (l : List (Nat → Int)) (w : World) (hl : n = l.length) (hn : n ≤ 1000000) (hr : Reads w B 6 A n (cellsE l)) (hB : B ≤ w.heap.size) :
    Calls Tryz.prog 11 #[.slice A n c] w (CNewOut l w) := by
  have HR := Lib.hid hr
  have HN := Lib.hid hl
  have hmm := @run_makeMap Tryz.prog
  have K0 := (KMap.new w).fr ((Fr.refl (w.heap.size + 1) [] (w.alloc (.map #[] 0))).alloc (by simp) (.cells #[.map (some w.heap.size)] 75)) (Nat.lt_succ_self _) (by simp)
  have B0 := Blk.new (w.alloc (.map #[] 0)) 75 #[.map (some w.heap.size)]
  rw [World.size_alloc] at B0
  have C0 := Lib.hid (CT.mk B0 K0)
  have F0 := Lib.hid (((Fr.refl w.heap.size [] w).alloc (Nat.le_refl _) (.map #[] 0)).alloc (by simp) (.cells #[.map (some w.heap.size)] 75))
  obtain ⟨w0, hw0⟩ : ∃ w0, w0 = (w.alloc (.map #[] 0)).alloc (.cells #[.map (some w.heap.size)] 75) := ⟨_, rfl⟩
  rw [← hw0] at C0 F0
  have HW0 := Lib.hid hw0
  clear hr hl K0 B0 hw0
  go_enter Tryz.func11, Tryz.ntmps11
  go_upto_region 3 with fail
  rw [← HW0.out]
  clear hmm
  go_loopg [6, 7, 13] n (fun g s6 s7 s13 wr => ∃ k : Nat, k ≤ n ∧ g = n - k ∧ s13 = .int .i64 k ∧ (s6 = undef ∨ ∃ a, s6 = .pointer a) ∧ RowKit.Hid ((l.take k).all okE = true) ∧ RowKit.Hid (CT wr (w.heap.size + 1) w.heap.size (tabL (l.take k))) ∧ RowKit.Hid (Fr w.heap.size [] w wr))
  case atStart => exact ⟨0, Nat.zero_le _, rfl, rfl, .inl rfl, Lib.hid rfl, C0, F0⟩
  case round =>
    obtain ⟨k, hk, rfl, rfl, hs6, HA, C, F⟩ := hrel
    by_cases hkn : k < n
    · have hki : (k : Int) < (n : Int) := by omega
      obtain ⟨x, hx⟩ : ∃ x, l[k]? = some x := ⟨_, List.getElem?_eq_getElem (by rw [← HN.out]; exact hkn)⟩
      obtain ⟨b, off, rfl, hb, hc⟩ := reads_ent (by rw [← HN.out]; exact HR.out.fr F.out hB (by simp)) hx
      have p0 := hc 0 (by omega)
      have p1 := hc 1 (by omega)
      have p2 := hc 2 (by omega)
      have p3 := hc 3 (by omega)
      have p4 := hc 4 (by omega)
      have p5 := hc 5 (by omega)
      simp only [Nat.add_zero, ← Nat.add_assoc] at p0 p1 p2 p3 p4 p5
      have htk : l.take (k + 1) = l.take k ++ [x] := by rw [List.take_add_one, hx]; rfl
      have HTK := Lib.hid htk
      have HAL := Lib.hid (List.mem_of_getElem? hx)
      clear hc hx htk
      have BX := Lib.hid (Blk.new wr 78 #[.int .i64 (x 0), .int .i64 (x 1), .int .i64 (x 2), .int .i64 (x 3), .int .i64 (x 4), .int .i64 (x 5)])
      have F1 := Lib.hid (F.out.alloc F.out.size (.cells #[.int .i64 (x 0), .int .i64 (x 1), .int .i64 (x 2), .int .i64 (x 3), .int .i64 (x 4), .int .i64 (x 5)] 78))
      have C1 := Lib.hid (C.out.keep ((Fr.refl wr.heap.size [] wr).alloc (Nat.le_refl _) (.cells #[.int .i64 (x 0), .int .i64 (x 1), .int .i64 (x 2), .int .i64 (x 3), .int .i64 (x 4), .int .i64 (x 5)] 78)))
      go_upto_region 5 with fail
      generalize wr.alloc _ = wa at *
      have HS := Lib.hid (ctset_any (w.heap.size + 1) w.heap.size (tabL (l.take k)) (x 0, x 1) (x 2, x 3, x 4, x 5) wa C1.out : Calls Tryz.prog 31 #[.pointer (some ⟨w.heap.size + 1, 0, none⟩), .int .i64 (x 0), .int .i64 (x 1), .agg #[.int .i64 (x 2), .int .i64 (x 3), .int .i64 (x 4), .int .i64 (x 5)]] wa (SetOut (w.heap.size + 1) w.heap.size (tabL (l.take k)) (x 0, x 1) (x 2, x 3, x 4, x 5) wa))
      have x0 := BX.out.cell 0
      have x1 := BX.out.cell 1
      have x2 := BX.out.cell 2
      have x3 := BX.out.cell 3
      have x4 := BX.out.cell 4
      have x5 := BX.out.cell 5
      simp at x0 x1 x2 x3 x4 x5
      clear p0 p1 p2 p3 p4 p5
      go_wp2_with fail
      with_reducible refine HS.out.mono ?_
      rintro e w' ⟨rfl, C2, f2⟩
      have F2 := Lib.hid (F1.out.trans (f2.mono (B' := w.heap.size) (L' := []) F1.out.size (by simp)))
      have C2 := Lib.hid C2
      clear f2 HS
      rcases Bool.eq_false_or_eq_true (setB2 (x 0, x 1) (x 2, x 3, x 4, x 5)) with hs | hs
      · rw [if_pos hs] at C2
        have HA2 := Lib.hid (show (l.take (k + 1)).all okE = true by rw [HTK.out, List.all_append, HA.out]; simp [okE, entP, entV, hs])
        rw [show updT (tabL (l.take k)) (x 0, x 1) (x 2, x 3, x 4, x 5) = tabL (l.take (k + 1)) by rw [HTK.out, tabL_snoc]; rfl] at C2
        have hs2 : setB2 (x 0, x 1) (x 2, x 3, x 4, x 5) = true := hs
        rw [if_pos hs2]
        clear hs hs2
        go_wp2_with fail
        go_roundg (n - (k + 1))
        case measure => omega
        case rel => exact ⟨k + 1, by omega, rfl, by go_num, .inr ⟨_, rfl⟩, HA2, C2, F2⟩
      · have HB := Lib.hid (show l.all okE = false by
          rw [Bool.eq_false_iff]
          intro h
          have := List.all_eq_true.1 h x HAL.out
          unfold okE entP entV at this
          rw [hs] at this
          cases this)
        have hs2 : ¬ setB2 (x 0, x 1) (x 2, x 3, x 4, x 5) = true := by rw [show setB2 (x 0, x 1) (x 2, x 3, x 4, x 5) = false from hs]; simp
        rw [if_neg hs2]
        clear hs hs2
        go_wp2_with fail
        go_ret2
        exact .inl ⟨HB.out, rfl, F2.out⟩
    · obtain rfl : n = k := by omega
      go_wp2_with fail
      go_ret2
      have h1 := HA.out
      have h2 := C.out
      rw [List.take_of_length_le (by rw [HN.out]; exact Nat.le_refl _)] at h1 h2
      exact .inr ⟨h1, rfl, h2, F.out⟩
end Go.Proofs.YthfibggbipkmfaaGreat
namespace Go.Proofs.YthfibggbipkmfaaGreat
open Go.RowKit Go.Fb
set_option linter.unusedVariables false
theorem rises_uniq {α : Type} (f : α → Int) : ∀ {A B : List α}, A.Pairwise (fun a b => f a < f b) → B.Pairwise (fun a b => f a < f b) → (∀ x, x ∈ A ↔ x ∈ B) → A = B
  | [], [], _, _, _ => rfl
  | [], b :: B, _, _, h => absurd ((h b).2 (by simp)) (by simp)
  | a :: A, [], _, _, h => absurd ((h a).1 (by simp)) (by simp)
  | a :: A, b :: B, ha, hb, h => by
    obtain ⟨a1, a2⟩ := List.pairwise_cons.1 ha
    obtain ⟨b1, b2⟩ := List.pairwise_cons.1 hb
    have hab : a = b := by
      rcases List.mem_cons.1 ((h a).1 (by simp)) with e | e
      · exact e
      · rcases List.mem_cons.1 ((h b).2 (by simp)) with e' | e'
        · exact e'.symm
        · have := b1 a e
          have := a1 b e'
          omega
    subst hab
    congr 1
    refine rises_uniq f a2 b2 fun x => ⟨fun hx => ?_, fun hx => ?_⟩
    · rcases List.mem_cons.1 ((h x).1 (List.mem_cons_of_mem _ hx)) with e | e
      · subst e; have := a1 x hx; omega
      · exact e
    · rcases List.mem_cons.1 ((h x).2 (List.mem_cons_of_mem _ hx)) with e | e
      · subst e; have := b1 x hx; omega
      · exact e
/-- The entry of a place. -/
def entF (p : Pk) (c : CV) : Nat → Int := fun j => if j = 0 then p.1 else if j = 1 then p.2 else if j = 2 then c.1 else if j = 3 then c.2.1 else if j = 4 then c.2.2.1 else c.2.2.2
/-- All places, in order. -/
def plcs : List Pk := (List.range 512).map fun i => (((i / 64 : Nat) : Int), ((i % 64 : Nat) : Int))
def rankP (p : Pk) : Int := p.1 * 64 + p.2
theorem plcs_rank : plcs.Pairwise (fun a b => rankP a < rankP b) := by
  unfold plcs
  rw [List.pairwise_map]
  refine List.Pairwise.imp ?_ List.pairwise_lt_range
  intro a b h
  unfold rankP
  omega
theorem plcs_mem (p : Pk) : p ∈ plcs ↔ thereB p = true := by
  unfold plcs thereB
  rw [decide_eq_true_iff, List.mem_map]
  constructor
  · rintro ⟨i, hi, rfl⟩
    rw [List.mem_range] at hi
    simp only
    omega
  · rintro ⟨h1, h2, h3, h4⟩
    refine ⟨(p.1 * 64 + p.2).toNat, List.mem_range.2 (by omega), ?_⟩
    obtain ⟨a, b⟩ := p
    simp only at *
    have e : ((a * 64 + b).toNat : Int) = a * 64 + b := by omega
    have e1 : (((a * 64 + b).toNat / 64 : Nat) : Int) = a := by omega
    have e2 : (((a * 64 + b).toNat % 64 : Nat) : Int) = b := by omega
    rw [e1, e2]
/-- What is kept at places that are asked for, in order. -/
def someT (q : Pk → Bool) (T : Pk → CV) : List Pk := plcs.filter fun p => decide (T p ≠ c0) && q p
def someE (q : Pk → Bool) (T : Pk → CV) : List (Nat → Int) := (someT q T).map fun p => entF p (T p)
def allT (T : Pk → CV) : List (Nat → Int) := someE (fun _ => true) T
theorem someT_mem {q : Pk → Bool} {T : Pk → CV} {p : Pk} : p ∈ someT q T ↔ thereB p = true ∧ T p ≠ c0 ∧ q p = true := by
  unfold someT
  rw [List.mem_filter, plcs_mem, Bool.and_eq_true, decide_eq_true_iff]
theorem someT_rank (q : Pk → Bool) (T : Pk → CV) : (someT q T).Pairwise (fun a b => rankP a < rankP b) := plcs_rank.sublist List.filter_sublist
/-- Is all that is kept at right places, and right? -/
def TOk (T : Pk → CV) : Prop := ∀ p, T p ≠ c0 → thereB p = true ∧ cvB (T p) = true
theorem TOk.zero : TOk (fun _ => c0) := fun p h => absurd rfl h
theorem TOk.upd {T : Pk → CV} (h : TOk T) {p : Pk} {c : CV} (hc : setB2 p c = true) : TOk (updT T p c) := by
  intro q hq
  unfold updT at hq ⊢
  unfold setB2 at hc
  rw [Bool.and_eq_true] at hc
  by_cases e : q = p
  · rw [if_pos e]; subst e; exact hc
  · rw [if_neg e] at hq ⊢; exact h q hq
theorem TOk.del {T : Pk → CV} (h : TOk T) (p : Pk) : TOk (updT T p c0) := by
  intro q hq
  unfold updT at hq ⊢
  by_cases e : q = p
  · rw [if_pos e] at hq; exact absurd rfl hq
  · rw [if_neg e] at hq ⊢; exact h q hq
/-- What has been taken out of the map so far. -/
structure TookK (es : Array MapEntry) (K K' : List Pk) (seen : Array Nat) : Prop where
  nd : K'.Nodup
  sub : ∀ p ∈ K', p ∈ K
  all : ∀ e ∈ es.toList, seen.contains e.born = true → ∃ p ∈ K', e.key = pkV p
  back : ∀ e ∈ es.toList, ∀ p ∈ K', e.key = pkV p → seen.contains e.born = true
theorem TookK.start (es : Array MapEntry) (K : List Pk) : TookK es K [] #[] := ⟨List.nodup_nil, by simp, by simp, by simp⟩
section
variable {T : Pk → CV} {es : Array MapEntry} {clock : Nat} {K K' : List Pk} {seen : Array Nat}
theorem sameK : ∀ {es : List MapEntry} {K : List Pk}, es.map (fun e => (e.key, e.val)) = K.map (fun p => (pkV p, cvV (T p))) → K.Nodup → ∀ {e e' : MapEntry}, e ∈ es → e' ∈ es → e.key = e'.key → e = e'
  | [], _, _, _, _, _, h, _, _ => by cases h
  | x :: es, [], he, _, _, _, _, _, _ => by simp at he
  | x :: es, p :: K, he, hnd, e, e', h, h', hk => by
    simp only [List.map_cons, List.cons.injEq, Prod.mk.injEq] at he
    obtain ⟨⟨hx, _⟩, he⟩ := he
    obtain ⟨hp, hnd⟩ := List.nodup_cons.1 hnd
    have far : ∀ y ∈ es, y.key ≠ pkV p := fun y hy hyp => by
      have : (y.key, y.val) ∈ K.map (fun p => (pkV p, cvV (T p))) := by rw [← he]; exact List.mem_map.2 ⟨y, hy, rfl⟩
      obtain ⟨q, hq, he2⟩ := List.mem_map.1 this
      simp only [Prod.mk.injEq] at he2
      have : q = p := pkV_inj (he2.1.trans hyp)
      exact hp (this ▸ hq)
    rcases List.mem_cons.1 h with h1 | h1 <;> rcases List.mem_cons.1 h' with h2 | h2
    · rw [h1, h2]
    · subst h1; exact absurd (hk.symm.trans hx) (far _ h2)
    · subst h2; exact absurd (hk.trans hx) (far _ h1)
    · exact sameK (K := K) he hnd h1 h2 hk
theorem entryK (he : Ents es clock K T) {e : MapEntry} (h : e ∈ es.toList) : ∃ p ∈ K, e.key = pkV p ∧ e.val = cvV (T p) := by
  have : (e.key, e.val) ∈ K.map (fun p => (pkV p, cvV (T p))) := by rw [← he.kv]; exact List.mem_map.2 ⟨e, h, rfl⟩
  obtain ⟨p, hp, h2⟩ := List.mem_map.1 this
  simp only [Prod.mk.injEq] at h2
  exact ⟨p, hp, h2.1.symm, h2.2.symm⟩
theorem TookK.step (h : TookK es K K' seen) (he : Ents es clock K T) {e : MapEntry} (hel : e ∈ (leftOf es seen).toList) {p : Pk} (hp : p ∈ K) (hk : e.key = pkV p) : TookK es K (K' ++ [p]) (seen.push e.born) := by
  have hes : e ∈ es.toList := (mem_left hel).1
  have hns : seen.contains e.born = false := by
    unfold leftOf at hel
    rw [Array.mem_toList_iff, Array.mem_filter] at hel
    simpa using hel.2
  have hpn : p ∉ K' := fun hc => by rw [h.back e hes p hc hk] at hns; cases hns
  refine ⟨?_, fun q hq => ?_, fun y hy hs => ?_, fun y hy q hq hyq => ?_⟩
  · rw [List.nodup_append]
    exact ⟨h.nd, by simp, fun a ha b hb => by rw [List.mem_singleton] at hb; subst hb; exact fun e => hpn (e ▸ ha)⟩
  · rcases List.mem_append.1 hq with hq | hq
    · exact h.sub q hq
    · rw [List.mem_singleton] at hq; subst hq; exact hp
  · rw [contains_push] at hs
    cases hc : seen.contains y.born with
    | true =>
      obtain ⟨q, hq, hyq⟩ := h.all y hy hc
      exact ⟨q, List.mem_append_left _ hq, hyq⟩
    | false =>
      rw [hc, Bool.false_or, beq_iff_eq] at hs
      have hye : y = e := by
        have a := find_born y es.toList he.born hy
        have b := find_born e es.toList he.born hes
        rw [hs, b] at a
        injection a with a
        exact a.symm
      subst hye
      exact ⟨p, by simp, hk⟩
  · rw [contains_push]
    rcases List.mem_append.1 hq with hq | hq
    · rw [h.back y hy q hq hyq, Bool.true_or]
    · rw [List.mem_singleton] at hq
      subst hq
      have : y = e := sameK he.kv he.nd hy hes (hyq.trans hk.symm)
      subst this
      simp
theorem TookK.done (h : TookK es K K' seen) (he : Ents es clock K T) (h0 : (leftOf es seen).size = 0) : ∀ p, p ∈ K' ↔ T p ≠ c0 := by
  refine fun p => ⟨fun hp => (he.mem p).1 (h.sub p hp), fun hp => ?_⟩
  have hp := (he.mem p).2 hp
  have : (pkV p, cvV (T p)) ∈ es.toList.map (fun e => (e.key, e.val)) := by
    rw [he.kv]
    exact List.mem_map.2 ⟨p, hp, rfl⟩
  obtain ⟨e, hes, h2⟩ := List.mem_map.1 this
  simp only [Prod.mk.injEq] at h2
  have hs : seen.contains e.born = true := by
    cases hc : seen.contains e.born with
    | true => rfl
    | false =>
      exfalso
      have hm : e ∈ leftOf es seen := by unfold leftOf; rw [Array.mem_filter]; exact ⟨by simpa using hes, by rw [hc]; rfl⟩
      have : leftOf es seen = #[] := Array.eq_empty_of_size_eq_zero h0
      rw [this] at hm
      simp at hm
  obtain ⟨q, hq, hk⟩ := h.all e hes hs
  rw [h2.1] at hk
  rw [pkV_inj hk]
  exact hq
end
theorem stB_fr (w : World) (r : Nat) (o : Obj) : Fr w.heap.size [r] w (Go.ChangeMaps.setBlock w r o) :=
  ⟨rfl, rfl, rfl, by simp [Go.ChangeMaps.setBlock], fun k _ hk => by
    have : r ≠ k := fun h => hk (by simp [h])
    simp [Go.ChangeMaps.setBlock, this]⟩
theorem stB_new {w : World} {r : Nat} (h : r < w.heap.size) (o : Obj) : (Go.ChangeMaps.setBlock w r o).heap[r]? = some o := by simp [Go.ChangeMaps.setBlock, h]
theorem seen_of {w : World} {r : Nat} {m : Option Nat} {a c : Nat} {s : Array Nat} (h : w.heap[r]? = some (.mapIter m a s c)) : w.iterSeen r = s := by
  unfold World.iterSeen; rw [h]
end Go.Proofs.YthfibggbipkmfaaGreat
namespace Go.Proofs.YthfibggbipkmfaaGreat
open Go.RowKit Go.Fb
set_option linter.unusedVariables false
theorem val_neq_any (x y : Int × Int) (w : World) : (binOp .neq 42 (.agg #[.int .i64 x.1, .int .i64 x.2]) (.agg #[.int .i64 y.1, .int .i64 y.2])).run Tryz.prog w = .ok (.bool (!decide (x = y))) w := by
  have h := valcmp_d 9998 x.1 x.2 y.1 y.2 w
  have e : (x.1 == y.1 && x.2 == y.2) = decide (x = y) := by
    obtain ⟨a, b⟩ := x
    obtain ⟨c, d⟩ := y
    rw [Bool.eq_iff_iff]
    simp
  rw [e] at h
  simp [binOp, Op.equal, Op.maxDepth, h]
theorem take_ne {α : Type} {a b : List α} {k : Nat} {x y : α} (hx : a[k]? = some x) (hy : b[k]? = some y) (h : x ≠ y) : a ≠ b := fun e => by
  rw [e, hy] at hx
  injection hx with hx
  exact h hx.symm
theorem take_eq_succ {α : Type} {a b : List α} {k : Nat} {x : α} (h : a.take k = b.take k) (hx : a[k]? = some x) (hy : b[k]? = some x) : a.take (k + 1) = b.take (k + 1) := by
  rw [List.take_add_one, List.take_add_one, h, hx, hy]
set_option maxRecDepth 100000 in
set_option maxHeartbeats 4000000 in
theorem veq_any (A1 A2 : Option Addr) (n1 n2 c1 c2 B : Nat) (a b : List (Int × Int)) (w : World) (h1 : n1 = a.length) (h2 : n2 = b.length) (hm : n1 ≤ 1073741000 ∧ n2 ≤ 1073741000) (r1 : Reads w B 2 A1 n1 (cellsV a)) (r2 : Reads w B 2 A2 n2 (cellsV b)) (hB : B ≤ w.heap.size) :
    Calls Tryz.prog 51 #[.slice A1 n1 c1, .slice A2 n2 c2] w fun e w' => e = .returned (.bool (decide (a = b))) ∧ Fr w.heap.size [] w w' := by
  have R1 := Lib.hid r1
  have R2 := Lib.hid r2
  have H1 := Lib.hid h1
  have H2 := Lib.hid h2
  obtain ⟨v, hv⟩ : ∃ v, v = decide (a = b) := ⟨_, rfl⟩
  have HV := Lib.hid hv
  rw [← hv]
  obtain ⟨hm1, hm2⟩ := hm
  clear r1 r2 h1 h2 hv
  by_cases hn : n1 = n2
  · subst hn
    go_enter Tryz.func51, Tryz.ntmps51
    go_wp2_with fail
    go_loopg [5, 13] n1 (fun g s5 s13 wr => ∃ k : Nat, k ≤ n1 ∧ g = n1 - k ∧ s13 = .int .i64 k ∧ (s5 = undef ∨ ∃ a : Int, s5 = .int .i64 a) ∧ RowKit.Hid (a.take k = b.take k) ∧ RowKit.Hid (Fr w.heap.size [] w wr))
    case atStart => exact ⟨0, Nat.zero_le _, rfl, rfl, .inl rfl, Lib.hid rfl, Lib.hid (Fr.refl _ _ _)⟩
    case round =>
      obtain ⟨k, hk, rfl, rfl, h5, HT, F⟩ := hrel
      by_cases hkn : k < n1
      · have hki : (k : Int) < (n1 : Int) := by omega
        have hk0 : (0 : Int) ≤ (k : Int) := by omega
        obtain ⟨x, hx⟩ : ∃ x, a[k]? = some x := ⟨_, List.getElem?_eq_getElem (by rw [← H1.out]; exact hkn)⟩
        obtain ⟨y, hy⟩ : ∃ y, b[k]? = some y := ⟨_, List.getElem?_eq_getElem (by rw [← H2.out]; exact hkn)⟩
        obtain ⟨b1, o1, rfl, hb1, p0, p1⟩ := reads_val (by have := R1.out.fr F.out hB (by simp); rw [H1.out] at this; exact this) hx
        obtain ⟨b2, o2, rfl, hb2, q0, q1⟩ := reads_val (by have := R2.out.fr F.out hB (by simp); rw [H2.out] at this; exact this) hy
        have hnq := fun w => val_neq_any x y w
        have HX := Lib.hid hx
        have HY := Lib.hid hy
        by_cases hxy : x = y
        · rw [decide_eq_true hxy] at hnq
          simp only [Bool.not_true] at hnq
          have HT2 := Lib.hid (take_eq_succ HT.out HX.out (by rw [HY.out, hxy]))
          clear hx hy hb1 hb2 hxy
          go_wp2_with fail
          go_quiet (fail)
          go_wp2_with fail
          go_roundg (n1 - (k + 1))
          case measure => omega
          case rel => exact ⟨k + 1, by omega, rfl, by go_num, .inr ⟨_, rfl⟩, HT2, Lib.hid (F.out.drewN _)⟩
        · rw [decide_eq_false hxy] at hnq
          simp only [Bool.not_false] at hnq
          have HNE := Lib.hid (take_ne HX.out HY.out hxy)
          clear hx hy hb1 hb2 hxy
          go_wp2_with fail
          go_quiet (fail)
          go_wp2_with fail
          go_ret
          exact ⟨by rw [HV.out, decide_eq_false HNE.out]; rfl, F.out.drewN _⟩
      · obtain rfl : n1 = k := by omega
        have HE := Lib.hid (show a = b by
          have h := HT.out
          rw [List.take_of_length_le (by rw [H1.out]; exact Nat.le_refl _), List.take_of_length_le (by rw [H2.out]; exact Nat.le_refl _)] at h
          exact h)
        go_wp2_with fail
        go_ret
        exact ⟨by rw [HV.out, decide_eq_true HE.out]; rfl, F.out⟩
  · have hne : ((n1 : Int) != (n2 : Int)) = true := by simpa using fun e : (n1 : Int) = n2 => hn (by omega)
    have hni : ¬ (n1 : Int) = (n2 : Int) := by omega
    have HNE := Lib.hid (show a ≠ b from fun e => hn (by rw [H1.out, H2.out, e]))
    go_enter Tryz.func51, Tryz.ntmps51
    go_wp2_with fail
    go_ret
    exact ⟨by rw [HV.out, decide_eq_false HNE.out]; rfl, Fr.refl _ _ _⟩
end Go.Proofs.YthfibggbipkmfaaGreat
namespace Go.Proofs.YthfibggbipkmfaaGreat
open Go.RowKit Go.Fb
set_option linter.unusedVariables false
/-- Is a list of values another's beginning? -/
def preB (v u : List (Int × Int)) : Bool := decide (v.length ≤ u.length) && decide (v = u.take v.length)
def prefB (a b : List (Nat → Int)) : Bool := a.all fun x => preB (onlyV a (keyL x)) (onlyV b (keyL x))
theorem vreads_pre {w : World} {B m : Nat} {A : Option Addr} {l : List (Int × Int)} (h : Reads w B 2 A l.length (cellsV l)) (hm : m ≤ l.length) : Reads w B 2 A m (cellsV (l.take m)) := by
  refine ⟨by rw [cellsV_length, List.length_take, Nat.min_eq_left hm], fun hn => ?_⟩
  obtain ⟨b, off, e, hb, hc⟩ := h.2 (by omega)
  refine ⟨b, off, e, hb, fun j u hu => hc j u ?_⟩
  have hl : cellsV l = cellsV (l.take m) ++ cellsV (l.drop m) := by rw [← cellsV_app, List.take_append_drop]
  rw [hl, List.getElem?_append_left]
  · exact hu
  · rcases Nat.lt_or_ge j (cellsV (l.take m)).length with h | h
    · exact h
    · rw [List.getElem?_eq_none h] at hu; cases hu
end Go.Proofs.YthfibggbipkmfaaGreat
namespace Go.Proofs.YthfibggbipkmfaaGreat
open Go.RowKit Go.Fb
set_option linter.unusedVariables false
theorem pref_no {a b : List (Nat → Int)} {p : Pl} (h : preB (onlyV a p) (onlyV b p) = false) : prefB a b = false := by
  rw [Bool.eq_false_iff]
  intro hp
  unfold prefB at hp
  rw [List.all_eq_true] at hp
  cases hl : (a.filter fun x => decide (keyL x = p)) with
  | nil =>
    have : onlyV a p = [] := by unfold onlyV; rw [hl]; rfl
    rw [this] at h
    simp [preB] at h
  | cons x t =>
    have hx : x ∈ a.filter fun x => decide (keyL x = p) := by rw [hl]; simp
    obtain ⟨h1, h2⟩ := List.mem_filter.1 hx
    have h3 := hp x h1
    rw [of_decide_eq_true h2, h] at h3
    cases h3
set_option maxRecDepth 100000 in
set_option maxHeartbeats 8000000 in
theorem dprefix_any (A1 A2 : Option Addr) (n1 n2 c1 c2 B : Nat) (a b : List (Nat → Int)) (w : World) (h1 : n1 = a.length) (h2 : n2 = b.length) (hm1 : n1 ≤ 1073741000) (hm2 : n2 ≤ 1073741000) (r1 : Reads w B 5 A1 n1 (cellsLn a)) (r2 : Reads w B 5 A2 n2 (cellsLn b)) (hB : B ≤ w.heap.size) :
    Calls Tryz.prog 26 #[.slice A1 n1 c1, .slice A2 n2 c2] w fun e w' => e = .returned (.bool (prefB a b)) ∧ Fr w.heap.size [] w w' := by
  have HBB := Lib.hid (by rw [h2]; exact by_any A2 c2 B b w (by rw [← h2]; exact r2) hB (by omega) : Calls Tryz.prog 50 #[.slice A2 n2 c2] w (ByOut b w))
  have HBA := Lib.hid (fun (wx : World) (hx : Fr w.heap.size [] w wx) => (by rw [h1]; exact by_any A1 c1 B a wx (by rw [← h1]; exact r1.fr hx hB (by simp)) (Nat.le_trans hB hx.size) (by omega) : Calls Tryz.prog 50 #[.slice A1 n1 c1] wx (ByOut a wx)))
  have H1 := Lib.hid h1
  have H2 := Lib.hid h2
  obtain ⟨v, hv⟩ : ∃ v, v = prefB a b := ⟨_, rfl⟩
  have HV := Lib.hid hv
  rw [← hv]
  clear r1 r2 h1 h2 hv
  go_enter Tryz.func26, Tryz.ntmps26
  go_wp2_with fail
  refine HBB.out.mono ?_
  rintro e w1 ⟨psb, rfl, hmb, f1⟩
  obtain ⟨gb, hgb⟩ : ∃ g, g = w.heap.size := ⟨_, rfl⟩
  rw [← hgb] at hmb ⊢
  have HMB := Lib.hid hmb
  have F1 := Lib.hid f1
  have HA1 := Lib.hid (HBA.out w1 f1)
  have HGB := Lib.hid hgb
  clear f1 hmb HBB HBA hgb
  go_wp2_with fail
  refine HA1.out.mono ?_
  rintro e w2 ⟨psa, rfl, hma, f2⟩
  obtain ⟨ga, hga⟩ : ∃ g, g = w1.heap.size := ⟨_, rfl⟩
  rw [← hga] at hma ⊢
  have HMA := Lib.hid hma
  have HMB2 := Lib.hid (HMB.out.keep f2)
  have F2 := Lib.hid (F1.out.trans (f2.mono (B' := w.heap.size) (L' := []) F1.out.size (by simp)))
  have hltm := hma.mp.lt
  obtain ⟨es, clock, hb, ho, hbn, hkv⟩ := hma.mp
  have hrg := run_range_map (P := Tryz.prog) w2 114 117 118 ga es clock Tryz.underlying114 hb
  have HBO := Lib.hid hb
  have HOL := Lib.hid ho
  have HBN := Lib.hid hbn
  have HKV := Lib.hid hkv
  obtain ⟨gi, hgi⟩ : ∃ gi, gi = w2.heap.size := ⟨_, rfl⟩
  have HGI := Lib.hid hgi
  clear hb ho hbn hkv f2 hma HMB HA1 hga
  go_upto_region 3 with fail
  rw [← hgi] at hltm
  simp only [← hgi]
  clear hgi
  go_loopw [6, 7, 8] (fun s6 s7 s8 wr => ∃ seen : Array Nat, (s6 = undef ∨ ∃ a, s6 = .pointer a) ∧ (s7 = undef ∨ ∃ A n c, s7 = .slice A n c) ∧ (s8 = undef ∨ ∃ A n c, s8 = .slice A n c) ∧ RowKit.Hid (wr.heap[gi]? = some (.mapIter (some ga) clock seen clock)) ∧ RowKit.Hid (∀ e ∈ es.toList, seen.contains e.born = true → ∀ p, e.key = plV p → preB (onlyV a p) (onlyV b p) = true) ∧ RowKit.Hid (Fr gi [] w2 wr)) (fun _ _ _ wr => (leftOf es (wr.iterSeen gi)).size)
  case atStart => exact ⟨#[], .inl rfl, .inl rfl, .inl rfl, Lib.hid (by rw [HGI.out]; exact heap_alloc_new w2 _), Lib.hid (fun e _ h => by simp at h), Lib.hid (by rw [HGI.out]; exact (Fr.refl _ _ _).alloc (Nat.le_refl _) _)⟩
  case round =>
    clear hrg
    obtain ⟨seen, h6, h7, h8, HI, HS, FF⟩ := hrel
    have hbm := (FF.out.block ga hltm (by simp)).trans HBO.out
    have FW := Lib.hid (F2.out.trans (FF.out.mono (B' := w.heap.size) (L' := []) (by have := F2.out.size; have := HGI.out; omega) (by simp)))
    rcases run_next_at (P := Tryz.prog) wr 0 gi ga clock clock seen es clock HI.out hbm HOL.out (Nat.le_refl _) with ⟨h0, hrun⟩ | ⟨e, hel, w3, hw3, hrun⟩
    · have hnx : ∀ ty, (Instr.next (.pointer (some ⟨gi, 0, none⟩)) false ty).run Tryz.prog wr = _ := fun _ => hrun
      have HT := Lib.hid (show prefB a b = true by
        unfold prefB
        rw [List.all_eq_true]
        intro x hx
        have hsz := HMA.out.own (keyL x)
        have hne : getP psa (keyL x) ≠ .slice none 0 0 := fun e => by
          rw [e] at hsz
          have h1 : (x 3, x 4) ∈ onlyV a (keyL x) := by
            unfold onlyV
            exact List.mem_map.2 ⟨x, List.mem_filter.2 ⟨hx, by simp⟩, rfl⟩
          have h2 := List.length_pos_of_mem h1
          obtain ⟨_, _, h3, _⟩ := ownsRow_shape hsz
          injection h3 with _ h3 _
          omega
        have hk : ∃ u, (keyL x, u) ∈ psa := by
          unfold getP at hne
          cases hf : findP (keyL x) psa 0 with
          | none => rw [hf] at hne; exact absurd rfl hne
          | some y =>
            obtain ⟨_, g2⟩ := findP_some (p := keyL x) (v := y.2) (j := y.1) hf
            exact ⟨y.2, List.mem_of_getElem? g2⟩
        obtain ⟨u, hu⟩ := hk
        have hm : (plV (keyL x), u) ∈ es.toList.map (fun e => (e.key, e.val)) := by
          rw [HKV.out]
          exact List.mem_map.2 ⟨(keyL x, u), hu, rfl⟩
        obtain ⟨e, he, h5⟩ := List.mem_map.1 hm
        simp only [Prod.mk.injEq] at h5
        have hs : seen.contains e.born = true := by
          cases hc : seen.contains e.born with
          | true => rfl
          | false =>
            exfalso
            have hm : e ∈ leftOf es seen := by unfold leftOf; rw [Array.mem_filter]; exact ⟨by simpa using he, by rw [hc]; rfl⟩
            have : leftOf es seen = #[] := Array.eq_empty_of_size_eq_zero h0
            rw [this] at hm
            simp at hm
        exact HS.out e he hs (keyL x) h5.1)
      clear hrun h0 hbm
      go_wp2_with fail
      go_ret
      exact ⟨by rw [HV.out, HT.out]; rfl, FW.out⟩
    · obtain ⟨hee, _⟩ := mem_left hel
      obtain ⟨p, y, hpm, hk2, hxv⟩ : ∃ p y, (p, y) ∈ psa ∧ e.key = plV p ∧ e.val = y := by
        have h5 : (e.key, e.val) ∈ psa.map (fun x => (plV x.1, x.2)) := by rw [← HKV.out]; exact List.mem_map.2 ⟨e, hee, rfl⟩
        obtain ⟨q, hq, h6⟩ := List.mem_map.1 h5
        simp only [Prod.mk.injEq] at h6
        exact ⟨q.1, q.2, hq, h6.1.symm, h6.2.symm⟩
      have hgy := getP_mem HMA.out.nd hpm
      obtain ⟨xa, hxa⟩ : ∃ z, z = onlyV a p := ⟨_, rfl⟩
      obtain ⟨xb, hxb⟩ : ∃ z, z = onlyV b p := ⟨_, rfl⟩
      have owa := HMA.out.own p
      have owb := HMB2.out.own p
      rw [hgy, ← hxa] at owa
      rw [← hxb] at owb
      have HXA := Lib.hid hxa
      have HXB := Lib.hid hxb
      have hla : xa.length ≤ 1073741000 := by rw [hxa]; exact Nat.le_trans (onlyV_le _ _) (by rw [← H1.out]; exact hm1)
      have hlb : xb.length ≤ 1073741000 := by rw [hxb]; exact Nat.le_trans (onlyV_le _ _) (by rw [← H2.out]; exact hm2)
      obtain ⟨na, hna⟩ : ∃ z, z = xa.length := ⟨_, rfl⟩
      obtain ⟨nb, hnb⟩ : ∃ z, z = xb.length := ⟨_, rfl⟩
      rw [← hna] at owa hla
      rw [← hnb] at owb hlb
      have HNA := Lib.hid hna
      have HNB := Lib.hid hnb
      obtain ⟨Aa, ca, hya, _, _, _⟩ := ownsRow_shape owa
      obtain ⟨Ab, cb, hyb, _, hcb, _⟩ := ownsRow_shape owb
      subst hya
      rw [hyb] at owb
      have HYB := Lib.hid hyb
      have RA0 := Lib.hid (Reads.of_own owa)
      have RB0 := Lib.hid (Reads.of_own owb)
      have hsz3 : w3.heap.size = wr.heap.size := by rcases hw3 with rfl | rfl <;> rfl
      have hlt : gi < w3.heap.size := by
        rw [hsz3]
        rcases Nat.lt_or_ge gi wr.heap.size with h | h
        · exact h
        · have := HI.out; rw [Array.getElem?_eq_none h] at this; cases this
      have f13 : Fr wr.heap.size [] wr w3 := by
        rcases hw3 with rfl | rfl
        · exact Fr.refl _ _ _
        · exact (Fr.refl _ _ _).drew
      have hen := run_entry_at (P := Tryz.prog) (Go.ChangeMaps.setBlock w3 gi (.mapIter (some ga) clock (seen.push e.born) clock)) gi ga clock seen es clock e (stB_new hlt _) (((stB_fr w3 gi _).block ga (by omega) (by simp; omega)).trans ((f13.block ga (by omega) (by simp)).trans hbm)) hee HBN.out
      rw [hxv, hk2] at hrun hen
      have hnx : ∀ ty, (Instr.next (.pointer (some ⟨gi, 0, none⟩)) false ty).run Tryz.prog wr = _ := fun _ => hrun
      have HI2 := Lib.hid (stB_new (w := w3) hlt (.mapIter (some ga) clock (seen.push e.born) clock))
      have F23 := Lib.hid ((f13.mono (B' := wr.heap.size) (L' := [gi]) (Nat.le_refl _) (by simp)).trans ((stB_fr w3 gi (.mapIter (some ga) clock (seen.push e.born) clock)).mono (B' := wr.heap.size) (L' := [gi]) (by omega) (by simp)))
      have HSH := Lib.hid (show (leftOf es ((Go.ChangeMaps.setBlock w3 gi (.mapIter (some ga) clock (seen.push e.born) clock)).iterSeen gi)).size < (leftOf es (wr.iterSeen gi)).size by rw [seen_of HI.out, seen_of HI2.out]; exact left_shrinks es seen e (by simpa using hel))
      have hltr : gi < wr.heap.size := by omega
      have HEE := Lib.hid hee
      have HK2 := Lib.hid hk2
      generalize Go.ChangeMaps.setBlock w3 gi (.mapIter (some ga) clock (seen.push e.born) clock) = w4 at *
      have F4 := Lib.hid (FF.out.trans (F23.out.mono (B' := gi) (L' := []) (by omega) (by intro q hq hlt; simp at hq; omega)))
      have hs4 : wr.heap.size ≤ w4.heap.size := F23.out.size
      clear hrun hee hk2 hxv hel hlt f13 hw3 hsz3 hbm owa owb hgy hpm hyb hxa hxb hna hnb
      have BP := Lib.hid (Blk.new w4 117 #[.int .i64 p.1, .int .i64 p.2.1, .int .i64 p.2.2])
      have f5 := (Fr.refl w4.heap.size [] w4).alloc (Nat.le_refl _) (.cells #[.int .i64 p.1, .int .i64 p.2.1, .int .i64 p.2.2] 117)
      have F5 := Lib.hid (F4.out.trans (f5.mono (B' := gi) (L' := []) (by omega) (by simp)))
      have HI5 := Lib.hid ((f5.block gi (by omega) (by simp)).trans HI2.out)
      have hsz5 := f5.size
      clear f5
      go_upto_region 5 with fail
      clear hen hnx
      generalize w4.alloc (.cells #[.int .i64 p.1, .int .i64 p.2.1, .int .i64 p.2.2] 117) = w5 at *
      obtain ⟨g4, hg4⟩ : ∃ g, g = w4.heap.size := ⟨_, rfl⟩
      rw [← hg4] at BP hsz5 ⊢
      have hg4b : gi ≤ g4 := by omega
      have hg5 : g4 < w5.heap.size := BP.out.lt
      clear hg4 hs4
      have q0 := BP.out.cell 0
      have q1 := BP.out.cell 1
      have q2 := BP.out.cell 2
      simp at q0 q1 q2
      have hlk := (HMB2.out.mp.fr F5.out (by have := HMB2.out.mp.lt; rw [HGI.out]; exact this) (by simp)).look p
      rw [HYB.out] at hlk
      simp only [plV] at hlk
      have RA := Lib.hid (RA0.out.fr F5.out (by rw [HGI.out]; exact Nat.le_refl _) (by simp))
      have RB := Lib.hid (RB0.out.fr F5.out (by rw [HGI.out]; exact Nat.le_refl _) (by simp))
      have hsw : w2.heap.size ≤ w5.heap.size := by rw [← HGI.out]; omega
      have FX := Lib.hid (F2.out.trans (F5.out.mono (B' := w.heap.size) (L' := []) (by have := F2.out.size; have := HGI.out; omega) (by simp)))
      go_upto_region 6 with fail
      by_cases hab : na ≤ nb
      · have hgt : ¬ (nb : Int) < (na : Int) := by omega
        have hca : (na : Int) ≤ (cb : Int) := by omega
        have hn0 : (0 : Int) ≤ (na : Int) := by omega
        have HSM := Lib.hid (veq_any Aa Ab na na ca cb w2.heap.size xa (xb.take na) w5 HNA.out (by rw [List.length_take, ← HNB.out, Nat.min_eq_left hab]) ⟨by omega, by omega⟩ RA.out (vreads_pre (by rw [← HNB.out]; exact RB.out) (by rw [← HNB.out]; exact hab)) hsw)
        obtain ⟨q, hq⟩ : ∃ q, q = decide (xa = xb.take na) := ⟨_, rfl⟩
        rw [← hq] at HSM
        have HQ := Lib.hid (show preB xa xb = q by
          unfold preB
          rw [← HNA.out, ← HNB.out, decide_eq_true hab, Bool.true_and, hq])
        clear hq q0 q1 q2 hlk
        go_wp2_with fail
        refine HSM.out.mono ?_
        rintro e9 w9 ⟨rfl, f9⟩
        have F9 := Lib.hid (FX.out.trans (f9.mono (B' := w.heap.size) (L' := []) FX.out.size (by simp)))
        have F29 := Lib.hid (F5.out.trans (f9.mono (B' := gi) (L' := []) (by omega) (by simp)))
        have HI9 := Lib.hid ((f9.block gi (by omega) (by simp)).trans HI5.out)
        clear f9 HSM
        cases q with
        | true =>
          have HS2 := Lib.hid (show ∀ y ∈ es.toList, (seen.push e.born).contains y.born = true → ∀ p', y.key = plV p' → preB (onlyV a p') (onlyV b p') = true from fun y hy hs p' hk => by
            rw [contains_push] at hs
            cases hc : seen.contains y.born with
            | true => exact HS.out y hy hc p' hk
            | false =>
              rw [hc, Bool.false_or, beq_iff_eq] at hs
              have hye : y = e := by
                have a1 := find_born y es.toList HBN.out hy
                have a2 := find_born e es.toList HBN.out HEE.out
                rw [hs, a2] at a1
                injection a1 with a1
                exact a1.symm
              subst hye
              rw [HK2.out] at hk
              have hpp : p = p' := by
                obtain ⟨a1, a2, a3⟩ := p
                obtain ⟨d1, d2, d3⟩ := p'
                simp [plV] at hk
                obtain ⟨rfl, rfl, rfl⟩ := hk
                rfl
              subst hpp
              rw [← HXA.out, ← HXB.out]
              exact HQ.out)
          have HSH9 := Lib.hid (show (leftOf es (w9.iterSeen gi)).size < (leftOf es (wr.iterSeen gi)).size by rw [seen_of HI9.out, ← seen_of HI2.out]; exact HSH.out)
          go_wp2_with fail
          go_roundw
          case rel => exact ⟨seen.push e.born, .inr ⟨_, rfl⟩, .inr ⟨_, _, _, rfl⟩, .inr ⟨_, _, _, rfl⟩, HI9, HS2, F29⟩
          case measure => exact HSH9.out
        | false =>
          have HF := Lib.hid (show prefB a b = false from pref_no (by rw [← HXA.out, ← HXB.out]; exact HQ.out))
          go_wp2_with fail
          go_ret
          exact ⟨by rw [HV.out, HF.out]; rfl, F9.out⟩
      · have hgt : (nb : Int) < (na : Int) := by omega
        have HF := Lib.hid (show prefB a b = false from pref_no (p := p) (by
          rw [← HXA.out, ← HXB.out]
          unfold preB
          rw [← HNA.out, ← HNB.out, decide_eq_false hab, Bool.false_and]))
        go_wp2_with fail
        go_ret
        exact ⟨by rw [HV.out, HF.out]; rfl, FX.out⟩
set_option maxRecDepth 100000 in
theorem dalike_any (A1 A2 : Option Addr) (n1 n2 c1 c2 B : Nat) (a b : List (Nat → Int)) (w : World) (h1 : n1 = a.length) (h2 : n2 = b.length) (hm1 : n1 ≤ 1073741000) (hm2 : n2 ≤ 1073741000) (r1 : Reads w B 5 A1 n1 (cellsLn a)) (r2 : Reads w B 5 A2 n2 (cellsLn b)) (hB : B ≤ w.heap.size) :
    Calls Tryz.prog 17 #[.slice A1 n1 c1, .slice A2 n2 c2] w fun e w' => e = .returned (.bool (decide (a.length = b.length) && prefB a b)) ∧ Fr w.heap.size [] w w' := by
  have HP := Lib.hid (dprefix_any A1 A2 n1 n2 c1 c2 B a b w h1 h2 hm1 hm2 r1 r2 hB)
  by_cases hn : n1 = n2
  · have HD := Lib.hid (show decide (a.length = b.length) = true from decide_eq_true (by rw [← h1, ← h2, hn]))
    subst hn
    clear h1 h2 r1 r2
    go_enter Tryz.func17, Tryz.ntmps17
    go_wp2_with fail
    refine HP.out.mono ?_
    rintro e w1 ⟨rfl, f1⟩
    have F1 := Lib.hid f1
    clear f1 HP
    go_wp2_with fail
    go_ret
    exact ⟨by rw [HD.out, Bool.true_and]; rfl, F1.out⟩
  · have HD := Lib.hid (show decide (a.length = b.length) = false from decide_eq_false (by rw [← h1, ← h2]; exact hn))
    have hne : ((n1 : Int) == (n2 : Int)) = false := by simpa using fun e : (n1 : Int) = n2 => hn (by omega)
    have hni : ¬ (n1 : Int) = (n2 : Int) := by omega
    clear h1 h2 r1 r2 HP
    go_enter Tryz.func17, Tryz.ntmps17
    go_wp2_with fail
    go_ret
    exact ⟨by rw [HD.out, Bool.false_and]; rfl, Fr.refl _ _ _⟩
end Go.Proofs.YthfibggbipkmfaaGreat
namespace Go.Proofs.YthfibggbipkmfaaGreat
open Go.RowKit Go.Fb
set_option linter.unusedVariables false
theorem count_le : ∀ (u v : List Pl), (∀ p, u.count p ≤ v.count p) → u.length ≤ v.length ∧ (u.length = v.length → ∀ p, u.count p = v.count p)
  | [], v, _ => ⟨Nat.zero_le _, fun h p => by
    have : v = [] := List.eq_nil_of_length_eq_zero h.symm
    rw [this]⟩
  | x :: u, v, h => by
    have hx : x ∈ v := by
      have := h x
      rw [List.count_cons_self] at this
      exact List.count_pos_iff.1 (by omega)
    have h2 : ∀ p, u.count p ≤ (v.erase x).count p := fun p => by
      have := h p
      rw [List.count_erase]
      rw [List.count_cons] at this
      by_cases e : x = p
      · subst e
        simp at this ⊢
        omega
      · have e1 : (x == p) = false := by rw [beq_eq_false_iff_ne]; exact e
        simp [e1] at this ⊢
        have e2 : (p == x) = false := by rw [beq_eq_false_iff_ne]; exact fun h => e h.symm
        first | omega | (simp [e2]; omega)
    obtain ⟨h3, h4⟩ := count_le u (v.erase x) h2
    have hl := List.length_erase_of_mem hx
    have hpos := List.length_pos_of_mem hx
    refine ⟨by rw [List.length_cons]; omega, fun he p => ?_⟩
    have h5 := h4 (by rw [List.length_cons] at he; omega) p
    rw [List.count_erase] at h5
    rw [List.count_cons]
    have h6 := h p
    rw [List.count_cons] at h6
    by_cases e : x = p
    · subst e
      have hc : 0 < v.count x := List.count_pos_iff.2 hx
      simp at h5 h6 ⊢
      omega
    · have e1 : (x == p) = false := by rw [beq_eq_false_iff_ne]; exact e
      simp [e1] at h5 h6 ⊢
      omega
theorem onlyV_count (l : List (Nat → Int)) (p : Pl) : (onlyV l p).length = (l.map keyL).count p := by
  unfold onlyV
  rw [List.length_map]
  induction l with
  | nil => rfl
  | cons x l ih =>
    rw [List.filter_cons, List.map_cons, List.count_cons]
    by_cases e : keyL x = p
    · simp [e, ih]
    · have : (keyL x == p) = false := by rw [beq_eq_false_iff_ne]; exact e
      simp [e, this, ih]
theorem preB_iff {v u : List (Int × Int)} : preB v u = true ↔ v.length ≤ u.length ∧ v = u.take v.length := by
  unfold preB
  rw [Bool.and_eq_true, decide_eq_true_eq, decide_eq_true_eq]
theorem prefB_at {a b : List (Nat → Int)} (h : prefB a b = true) (p : Pl) : preB (onlyV a p) (onlyV b p) = true := by
  cases hc : preB (onlyV a p) (onlyV b p) with
  | true => rfl
  | false => rw [pref_no hc] at h; cases h
theorem prefB_of {a b : List (Nat → Int)} (h : ∀ p, preB (onlyV a p) (onlyV b p) = true) : prefB a b = true := by
  unfold prefB
  rw [List.all_eq_true]
  exact fun x _ => h (keyL x)
theorem preB_self (v : List (Int × Int)) : preB v v = true := preB_iff.2 ⟨Nat.le_refl _, by rw [List.take_length]⟩
theorem alike_eq (a b : List (Nat → Int)) : (decide (a.length = b.length) && prefB a b) = (prefB a b && prefB b a) := by
  cases hp : prefB a b with
  | false => rw [Bool.and_false, Bool.false_and]
  | true =>
    rw [Bool.and_true, Bool.true_and]
    have hle : ∀ p, (a.map keyL).count p ≤ (b.map keyL).count p := fun p => by
      rw [← onlyV_count, ← onlyV_count]
      exact (preB_iff.1 (prefB_at hp p)).1
    obtain ⟨h1, h2⟩ := count_le _ _ hle
    rw [List.length_map, List.length_map] at h1 h2
    by_cases hl : a.length = b.length
    · rw [decide_eq_true hl]
      have h3 := h2 hl
      refine (prefB_of fun p => ?_).symm
      have h4 := preB_iff.1 (prefB_at hp p)
      have h5 : (onlyV a p).length = (onlyV b p).length := by rw [onlyV_count, onlyV_count]; exact h3 p
      have h6 : onlyV a p = onlyV b p := by rw [h4.2, h5, List.take_length]
      rw [h6]
      exact preB_self _
    · rw [decide_eq_false hl]
      cases hq : prefB b a with
      | false => rfl
      | true =>
        exfalso
        have hle2 : ∀ p, (b.map keyL).count p ≤ (a.map keyL).count p := fun p => by
          rw [← onlyV_count, ← onlyV_count]
          exact (preB_iff.1 (prefB_at hq p)).1
        have h3 := (count_le _ _ hle2).1
        rw [List.length_map, List.length_map] at h3
        omega
theorem onlyV_take (l : List (Nat → Int)) (m : Nat) (p : Pl) : preB (onlyV (l.take m) p) (onlyV l p) = true := by
  have h : onlyV l p = onlyV (l.take m) p ++ onlyV (l.drop m) p := by
    unfold onlyV
    rw [← List.map_append, ← List.filter_append, List.take_append_drop]
  rw [preB_iff, h]
  exact ⟨by rw [List.length_append]; omega, by rw [List.take_left]⟩
theorem prefB_take (l : List (Nat → Int)) (m : Nat) : prefB (l.take m) l = true := prefB_of fun p => onlyV_take l m p
theorem lreads_pre {w : World} {B m : Nat} {A : Option Addr} {l : List (Nat → Int)} (h : Reads w B 5 A l.length (cellsLn l)) (hm : m ≤ l.length) : Reads w B 5 A m (cellsLn (l.take m)) := by
  refine ⟨by rw [cellsLn_length, List.length_take, Nat.min_eq_left hm], fun hn => ?_⟩
  obtain ⟨b, off, e, hb, hc⟩ := h.2 (by omega)
  refine ⟨b, off, e, hb, fun j u hu => hc j u ?_⟩
  have hl : cellsLn l = cellsLn (l.take m) ++ cellsLn (l.drop m) := by rw [← cellsLn_app, List.take_append_drop]
  rw [hl, List.getElem?_append_left]
  · exact hu
  · rcases Nat.lt_or_ge j (cellsLn (l.take m)).length with h | h
    · exact h
    · rw [List.getElem?_eq_none h] at hu; cases hu
end Go.Proofs.YthfibggbipkmfaaGreat
