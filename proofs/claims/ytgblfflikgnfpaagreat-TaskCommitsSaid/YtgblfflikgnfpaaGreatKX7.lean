/- Texts merged into one, for the number of files a claim may have: CtA, CtB, CtP. -/
import Derived.Test.YtgblfflikgnfpaaGreatKX3
import Derived.Test.YtgblfflikgnfpaaGreatKX4
import Derived.Deep.DeepCutAuto
import Derived.Deep.RegionHeld3
import Derived.Laws.EntriesVeiled
import Derived.Maps.RangeRun
namespace Go.Proofs.YtgblfflikgnfpaaGreat
open Go.RowKit Go.Fb
set_option linter.unusedVariables false
set_option maxRecDepth 100000 in
theorem valcmp_d (d : Nat) (a b c e : Int) (w : World) : (Op.equalIn (d + 2) 30 (.agg #[.int .i64 a, .int .i64 b]) (.agg #[.int .i64 c, .int .i64 e])).run Tryz.prog w = .ok (a == c && b == e) w := by
  rw [run_equalIn_struct w (d + 1) 30 _ _ (by kernel_rfl) (by kernel_rfl)]
  simp [Program.fieldsOf, Tryz.underlying30]
  by_cases h1 : a = c
  · by_cases h2 : b = e <;> simp [Op.eqFields, part, isAgg, run_underlying Tryz.underlying3, run_equalIn_int w d 3 .i64 .i64 _ _ Tryz.underlying3, h1, h2]
  · simp [Op.eqFields, part, isAgg, run_underlying Tryz.underlying3, run_equalIn_int w d 3 .i64 .i64 _ _ Tryz.underlying3, h1]
theorem cv_beq (x y : CV) : ((x.1 == y.1 && x.2.1 == y.2.1) && (x.2.2.1 == y.2.2.1 && x.2.2.2 == y.2.2.2)) = decide (x = y) := by
  obtain ⟨a, b, c, d⟩ := x
  obtain ⟨a', b', c', d'⟩ := y
  rw [Bool.eq_iff_iff]
  simp [and_assoc]
set_option maxRecDepth 100000 in
theorem cv_eqd (d : Nat) (x y : CV) (w : World) : (Op.equalIn (d + 3) 94 (cvV x) (cvV y)).run Tryz.prog w = .ok (decide (x = y)) w := by
  obtain ⟨i, hi, hz, hsz, hby⟩ := info_parts valinfo
  rw [run_equalIn_array w (d + 2) _ _ Tryz.underlying94 hi]
  have hc : Tryz.prog.cellsOf 30 = 2 := by kernel_rfl
  have hsO : ∀ w, (sizeOf 30).run Tryz.prog w = .ok 2 w := fun w => by kernel_rfl
  have p0 : ∀ (z : CV) w, (part 30 #[.int .i64 z.1, .int .i64 z.2.1, .int .i64 z.2.2.1, .int .i64 z.2.2.2] 0).run Tryz.prog w = .ok (.agg #[.int .i64 z.1, .int .i64 z.2.1]) w := fun z w => by
    simp [part, isAgg, run_underlying Tryz.underlying30, hsO]
  have p1 : ∀ (z : CV) w, (part 30 #[.int .i64 z.1, .int .i64 z.2.1, .int .i64 z.2.2.1, .int .i64 z.2.2.2] 2).run Tryz.prog w = .ok (.agg #[.int .i64 z.2.2.1, .int .i64 z.2.2.2]) w := fun z w => by
    simp [part, isAgg, run_underlying Tryz.underlying30, hsO]
  have key : ∀ v1 v2 : Bool, (x.1 == y.1 && x.2.1 == y.2.1) = v1 → (x.2.2.1 == y.2.2.1 && x.2.2.2 == y.2.2.2) = v2 → (Op.eqItems (d + 2) 30 2 #[.int .i64 x.1, .int .i64 x.2.1, .int .i64 x.2.2.1, .int .i64 x.2.2.2] #[.int .i64 y.1, .int .i64 y.2.1, .int .i64 y.2.2.1, .int .i64 y.2.2.2] [0, 1]).run Tryz.prog w = .ok (v1 && v2) w := by
    intro v1 v2 h1 h2
    have e1 := valcmp_d d x.1 x.2.1 y.1 y.2.1 w
    have e2 := valcmp_d d x.2.2.1 x.2.2.2 y.2.2.1 y.2.2.2 w
    rw [h1] at e1
    rw [h2] at e2
    cases v1 <;> cases v2 <;> simp [Op.eqItems, p0, p1, e1, e2]
  have k := key _ _ rfl rfl
  rw [cv_beq] at k
  simpa [hc, List.range_succ] using k
theorem cv_eq (x y : CV) (w : World) : (binOp .eql 94 (cvV x) (cvV y)).run Tryz.prog w = .ok (.bool (decide (x = y))) w := by
  simp [binOp, Op.equal, Op.maxDepth, cv_eqd]
/-- May a place be; may its cells? -/
def thereB (p : Pk) : Bool := decide (0 ≤ p.1 ∧ p.1 < 8 ∧ 0 ≤ p.2 ∧ p.2 < 64)
def cvB (c : CV) : Bool := valB c.1 c.2.1 && valB c.2.2.1 c.2.2.2
def setB2 (p : Pk) (c : CV) : Bool := thereB p && cvB c
set_option maxRecDepth 100000 in
theorem there_any (a k : Int) (w : World) : Calls Tryz.prog 97 #[.int .i64 a, .int .i64 k] w fun e w' => e = .returned (.bool (thereB (a, k))) ∧ w = w' := by
  obtain ⟨v, hv⟩ : ∃ v, v = thereB (a, k) := ⟨_, rfl⟩
  rw [← hv]
  unfold thereB at hv
  simp only at hv
  by_cases h1 : 0 ≤ a
  · by_cases h2 : a < 8
    · by_cases h3 : 0 ≤ k
      · by_cases h4 : k < 64
        · rw [decide_eq_true ⟨h1, h2, h3, h4⟩] at hv
          subst hv
          go_enter Tryz.func97, Tryz.ntmps97
          go_wp2_with fail
          go_ret
          exact ⟨rfl, rfl⟩
        · rw [decide_eq_false (fun h => h4 h.2.2.2)] at hv
          subst hv
          go_enter Tryz.func97, Tryz.ntmps97
          go_wp2_with fail
          go_ret
          exact ⟨rfl, rfl⟩
      · rw [decide_eq_false (fun h => h3 h.2.2.1)] at hv
        subst hv
        go_enter Tryz.func97, Tryz.ntmps97
        go_wp2_with fail
        go_ret
        exact ⟨rfl, rfl⟩
    · rw [decide_eq_false (fun h => h2 h.2.1)] at hv
      subst hv
      go_enter Tryz.func97, Tryz.ntmps97
      go_wp2_with fail
      go_ret
      exact ⟨rfl, rfl⟩
  · rw [decide_eq_false (fun h => h1 h.1)] at hv
    subst hv
    go_enter Tryz.func97, Tryz.ntmps97
    go_wp2_with fail
    go_ret
    exact ⟨rfl, rfl⟩
/-- A table in memory: the object at gt, its map at gm. -/
structure CT (w : World) (gt gm : Nat) (T : Pk → CV) : Prop where
  bk : Blk w gt 212 #[.map (some gm)]
  mp : KMap w gm T
theorem CT.fr {w w' : World} {gt gm B : Nat} {L : List Nat} {T : Pk → CV} (h : CT w gt gm T) (hf : Fr B L w w') (h1 : gt < B) (h2 : gt ∉ L) (h3 : gm < B) (h4 : gm ∉ L) : CT w' gt gm T := ⟨h.bk.fr hf h1 h2, h.mp.fr hf h3 h4⟩
theorem CT.keep {w w' : World} {gt gm : Nat} {T : Pk → CV} (h : CT w gt gm T) (hf : Fr w.heap.size [] w w') : CT w' gt gm T := h.fr hf h.bk.lt (by simp) h.mp.lt (by simp)
/-- What Set leaves. -/
def SetOut (gt gm : Nat) (T : Pk → CV) (p : Pk) (c : CV) (w : World) (e : Ending) (w' : World) : Prop :=
  e = .returned (.int .i64 (if setB2 p c then 0 else 1)) ∧ CT w' gt gm (if setB2 p c then updT T p c else T) ∧ Fr w.heap.size [gm] w w'
set_option maxRecDepth 100000 in
set_option maxHeartbeats 2000000 in
theorem ctset_any (gt gm : Nat) (T : Pk → CV) (p : Pk) (c : CV) (w : World) (h : CT w gt gm T) :
    Calls Tryz.prog 93 #[.pointer (some ⟨gt, 0, none⟩), .int .i64 p.1, .int .i64 p.2, cvV c] w (SetOut gt gm T p c w) := by
  have HT := Lib.hid (there_any p.1 p.2)
  have HG1 := Lib.hid (gright_any c.1 c.2.1)
  have HG2 := Lib.hid (gright_any c.2.2.1 c.2.2.2)
  have BC := Lib.hid (Blk.new w 94 #[.int .i64 c.1, .int .i64 c.2.1, .int .i64 c.2.2.1, .int .i64 c.2.2.2])
  have fa := (Fr.refl w.heap.size [] w).alloc (Nat.le_refl _) (.cells #[.int .i64 c.1, .int .i64 c.2.1, .int .i64 c.2.2.1, .int .i64 c.2.2.2] 94)
  have FA := Lib.hid fa
  have HCT := Lib.hid (h.keep fa)
  obtain ⟨w0, hw0⟩ : ∃ w0, w0 = w.alloc (.cells #[.int .i64 c.1, .int .i64 c.2.1, .int .i64 c.2.2.1, .int .i64 c.2.2.2] 94) := ⟨_, rfl⟩
  rw [← hw0] at BC FA HCT
  obtain ⟨g, hg⟩ : ∃ g, g = w.heap.size := ⟨_, rfl⟩
  rw [← hg] at BC
  have HG := Lib.hid hg
  have HW0 := Lib.hid hw0
  have hlm := h.mp.lt
  clear h fa hg hw0
  obtain ⟨vt, hvt⟩ : ∃ v, v = thereB p := ⟨_, rfl⟩
  obtain ⟨v1, hv1⟩ : ∃ v, v = valB c.1 c.2.1 := ⟨_, rfl⟩
  obtain ⟨v2, hv2⟩ : ∃ v, v = valB c.2.2.1 c.2.2.2 := ⟨_, rfl⟩
  have hS : setB2 p c = (vt && (v1 && v2)) := by unfold setB2 cvB; rw [← hvt, ← hv1, ← hv2]
  rw [show thereB (p.1, p.2) = vt from hvt.symm] at HT
  rw [← hv1] at HG1
  rw [← hv2] at HG2
  clear hvt hv1 hv2
  go_enter Tryz.func93, Tryz.ntmps93
  go_upto_region 2 with fail
  rw [← HW0.out, ← HG.out]
  have q0 := BC.out.cell 0
  have q1 := BC.out.cell 1
  have q2 := BC.out.cell 2
  have q3 := BC.out.cell 3
  simp at q0 q1 q2 q3
  go_wp2_with fail
  refine (HT.out _).mono ?_
  rintro e w1 ⟨rfl, rfl⟩
  cases vt with
  | false =>
    go_wp2_with fail
    go_ret
    rw [Bool.false_and] at hS
    exact ⟨by rw [hS]; rfl, by rw [hS]; exact HCT.out, FA.out.mono (by simp) (by simp)⟩
  | true => ?_
  rw [Bool.true_and] at hS
  go_wp2_with fail
  refine (HG1.out _).mono ?_
  rintro e w1 ⟨rfl, f1⟩
  have F1 := Lib.hid (FA.out.trans (f1.mono (B' := w.heap.size) (L' := []) FA.out.size (by simp)))
  have HC1 := Lib.hid (HCT.out.keep f1)
  have BC1 := Lib.hid (BC.out.fr f1 BC.out.lt (by simp))
  clear f1 q0 q1 q2 q3 HCT FA BC
  have q0 := BC1.out.cell 0
  have q1 := BC1.out.cell 1
  have q2 := BC1.out.cell 2
  have q3 := BC1.out.cell 3
  simp at q0 q1 q2 q3
  cases v1 with
  | false =>
    go_wp2_with fail
    go_ret
    rw [Bool.false_and] at hS
    exact ⟨by rw [hS]; rfl, by rw [hS]; exact HC1.out, F1.out.mono (by simp) (by simp)⟩
  | true => ?_
  rw [Bool.true_and] at hS
  go_wp2_with fail
  refine (HG2.out _).mono ?_
  rintro e w2 ⟨rfl, f2⟩
  have F2 := Lib.hid (F1.out.trans (f2.mono (B' := w.heap.size) (L' := []) F1.out.size (by simp)))
  have HC2 := Lib.hid (HC1.out.keep f2)
  have BC2 := Lib.hid (BC1.out.fr f2 BC1.out.lt (by simp))
  clear f2 q0 q1 q2 q3 HC1 F1 BC1
  have q0 := BC2.out.cell 0
  have q1 := BC2.out.cell 1
  have q2 := BC2.out.cell 2
  have q3 := BC2.out.cell 3
  simp at q0 q1 q2 q3
  cases v2 with
  | false =>
    go_wp2_with fail
    go_ret
    exact ⟨by rw [hS]; rfl, by rw [hS]; exact HC2.out, F2.out.mono (by simp) (by simp)⟩
  | true => ?_
  have t0 := HC2.out.bk.cell 0
  simp at t0
  have HS := Lib.hid hS
  clear hS
  by_cases hc : c = c0
  · have hcmp := fun w => cv_eq c c0 w
    rw [decide_eq_true hc] at hcmp
    obtain ⟨w3, hdel, hm3, f3, hs3⟩ := HC2.out.mp.del p
    have HM3 := Lib.hid hm3
    have F3 := Lib.hid f3
    have HC := Lib.hid hc
    clear hc hm3 f3 hs3
    simp only [c0, pkV, cvV] at hcmp hdel
    go_wp2_with fail
    go_ret
    have hgt : gt < w2.heap.size := HC2.out.bk.lt
    refine ⟨by rw [HS.out]; rfl, ?_, (F2.out.mono (by simp) (by simp)).trans (F3.out.mono F2.out.size (by simp))⟩
    rw [if_pos HS.out, HC.out]
    exact ⟨HC2.out.bk.fr F3.out hgt (by simp only [List.mem_singleton]; exact fun e => HC2.out.mp.ne HC2.out.bk e.symm), HM3.out⟩
  · have hcmp := fun w => cv_eq c c0 w
    rw [decide_eq_false hc] at hcmp
    simp only [c0, cvV] at hcmp
    have HC := Lib.hid hc
    clear hc
    go_wp2_with fail
    have HSD : KMap w2.drew gm T := HC2.out.mp.fr (Fr.refl w2.heap.size [] w2).drew HC2.out.mp.lt (by simp)
    obtain ⟨w3, hst, hm3, f3, hs3⟩ := HSD.store p c HC.out
    have HM3 := Lib.hid hm3
    have F3 := Lib.hid f3
    have td : w2.drew.cell? ⟨gt, 0, none⟩ = some (.map (some gm)) := t0
    clear hm3 f3 hs3 HSD
    simp only [pkV, cvV] at hst
    go_region_with fail
    all_goals
      go_wp2_with fail
      go_ret
      have hgt : gt < w2.heap.size := HC2.out.bk.lt
      refine ⟨by rw [HS.out]; rfl, ?_, (F2.out.drew.mono (by simp) (by simp)).trans (F3.out.mono F2.out.size (by simp))⟩
      rw [if_pos HS.out]
      exact ⟨(HC2.out.bk.drew).fr F3.out hgt (by simp only [List.mem_singleton]; exact fun e => HC2.out.mp.ne HC2.out.bk e.symm), HM3.out⟩
end Go.Proofs.YtgblfflikgnfpaaGreat
namespace Go.Proofs.YtgblfflikgnfpaaGreat
open Go.RowKit Go.Fb
set_option linter.unusedVariables false
def entP (x : Nat → Int) : Pk := (x 0, x 1)
def entV (x : Nat → Int) : CV := (x 2, x 3, x 4, x 5)
/-- The table that entries make, one behind the other; may all of them be? -/
def putT (T : Pk → CV) (x : Nat → Int) : Pk → CV := updT T (entP x) (entV x)
def tabL (l : List (Nat → Int)) : Pk → CV := l.foldl putT (fun _ => c0)
def okE (x : Nat → Int) : Bool := setB2 (entP x) (entV x)
theorem tabL_snoc (l : List (Nat → Int)) (x : Nat → Int) : tabL (l ++ [x]) = updT (tabL l) (entP x) (entV x) := by unfold tabL; rw [List.foldl_append]; rfl
/-- What New leaves. -/
def CNewOut (l : List (Nat → Int)) (w : World) (e : Ending) (w' : World) : Prop :=
  (l.all okE = false ∧ e = .returned (.tuple #[.pointer none, .int .i64 1]) ∧ Fr w.heap.size [] w w') ∨
  (l.all okE = true ∧ e = .returned (.tuple #[.pointer (some ⟨w.heap.size + 1, 0, none⟩), .int .i64 0]) ∧ CT w' (w.heap.size + 1) w.heap.size (tabL l) ∧ Fr w.heap.size [] w w')
set_option maxRecDepth 100000 in
set_option maxHeartbeats 2000000 in
theorem cnew_any (A : Option Addr) (n c B : Nat) (l : List (Nat → Int)) (w : World) (hl : n = l.length) (hn : n ≤ 1000000) (hr : Reads w B 6 A n (cellsE l)) (hB : B ≤ w.heap.size) :
    Calls Tryz.prog 57 #[.slice A n c] w (CNewOut l w) := by
  have HR := Lib.hid hr
  have HN := Lib.hid hl
  have hmm := @run_makeMap Tryz.prog
  have K0 := (KMap.new w).fr ((Fr.refl (w.heap.size + 1) [] (w.alloc (.map #[] 0))).alloc (by simp) (.cells #[.map (some w.heap.size)] 212)) (Nat.lt_succ_self _) (by simp)
  have B0 := Blk.new (w.alloc (.map #[] 0)) 212 #[.map (some w.heap.size)]
  rw [World.size_alloc] at B0
  have C0 := Lib.hid (CT.mk B0 K0)
  have F0 := Lib.hid (((Fr.refl w.heap.size [] w).alloc (Nat.le_refl _) (.map #[] 0)).alloc (by simp) (.cells #[.map (some w.heap.size)] 212))
  obtain ⟨w0, hw0⟩ : ∃ w0, w0 = (w.alloc (.map #[] 0)).alloc (.cells #[.map (some w.heap.size)] 212) := ⟨_, rfl⟩
  rw [← hw0] at C0 F0
  have HW0 := Lib.hid hw0
  clear hr hl K0 B0 hw0
  go_enter Tryz.func57, Tryz.ntmps57
  go_upto_region 3 with fail
  rw [← HW0.out]
  clear hmm
  go_loopg [6, 7, 13] n (fun g s6 s7 s13 wr => ∃ k : Nat, k ≤ n ∧ g = n - k ∧ s13 = .int .i64 k ∧ (s6 = undef ∨ ∃ a, s6 = .pointer a) ∧ RowKit.Hid ((l.take k).all okE = true) ∧ RowKit.Hid (CT wr (w.heap.size + 1) w.heap.size (tabL (l.take k))) ∧ RowKit.Hid (Fr w.heap.size [] w wr))
  case atStart => exact ⟨0, Nat.zero_le _, rfl, rfl, .inl rfl, Lib.hid rfl, C0, F0⟩
  case round =>
    obtain ⟨k, hk, rfl, rfl, hs6, HA, C, F⟩ := hrel
    by_cases hkn : k < n
    · have hki : (k : Int) < (n : Int) := by omega
      obtain ⟨x, hx⟩ : ∃ x, l[k]? = some x := ⟨_, List.getElem?_eq_getElem (by rw [← HN.out]; exact hkn)⟩
      obtain ⟨b, off, rfl, hb, hc⟩ := reads_ent (by rw [← HN.out]; exact HR.out.fr F.out hB (by simp)) hx
      have p0 := hc 0 (by omega)
      have p1 := hc 1 (by omega)
      have p2 := hc 2 (by omega)
      have p3 := hc 3 (by omega)
      have p4 := hc 4 (by omega)
      have p5 := hc 5 (by omega)
      simp only [Nat.add_zero, ← Nat.add_assoc] at p0 p1 p2 p3 p4 p5
      have htk : l.take (k + 1) = l.take k ++ [x] := by rw [List.take_add_one, hx]; rfl
      have HTK := Lib.hid htk
      have HAL := Lib.hid (List.mem_of_getElem? hx)
      clear hc hx htk
      have BX := Lib.hid (Blk.new wr 96 #[.int .i64 (x 0), .int .i64 (x 1), .int .i64 (x 2), .int .i64 (x 3), .int .i64 (x 4), .int .i64 (x 5)])
      have F1 := Lib.hid (F.out.alloc F.out.size (.cells #[.int .i64 (x 0), .int .i64 (x 1), .int .i64 (x 2), .int .i64 (x 3), .int .i64 (x 4), .int .i64 (x 5)] 96))
      have C1 := Lib.hid (C.out.keep ((Fr.refl wr.heap.size [] wr).alloc (Nat.le_refl _) (.cells #[.int .i64 (x 0), .int .i64 (x 1), .int .i64 (x 2), .int .i64 (x 3), .int .i64 (x 4), .int .i64 (x 5)] 96)))
      go_upto_region 5 with fail
      generalize wr.alloc _ = wa at *
      have HS := Lib.hid (ctset_any (w.heap.size + 1) w.heap.size (tabL (l.take k)) (x 0, x 1) (x 2, x 3, x 4, x 5) wa C1.out : Calls Tryz.prog 93 #[.pointer (some ⟨w.heap.size + 1, 0, none⟩), .int .i64 (x 0), .int .i64 (x 1), .agg #[.int .i64 (x 2), .int .i64 (x 3), .int .i64 (x 4), .int .i64 (x 5)]] wa (SetOut (w.heap.size + 1) w.heap.size (tabL (l.take k)) (x 0, x 1) (x 2, x 3, x 4, x 5) wa))
      have x0 := BX.out.cell 0
      have x1 := BX.out.cell 1
      have x2 := BX.out.cell 2
      have x3 := BX.out.cell 3
      have x4 := BX.out.cell 4
      have x5 := BX.out.cell 5
      simp at x0 x1 x2 x3 x4 x5
      clear p0 p1 p2 p3 p4 p5
      go_wp2_with fail
      with_reducible refine HS.out.mono ?_
      rintro e w' ⟨rfl, C2, f2⟩
      have F2 := Lib.hid (F1.out.trans (f2.mono (B' := w.heap.size) (L' := []) F1.out.size (by simp)))
      have C2 := Lib.hid C2
      clear f2 HS
      rcases Bool.eq_false_or_eq_true (setB2 (x 0, x 1) (x 2, x 3, x 4, x 5)) with hs | hs
      · rw [if_pos hs] at C2
        have HA2 := Lib.hid (show (l.take (k + 1)).all okE = true by rw [HTK.out, List.all_append, HA.out]; simp [okE, entP, entV, hs])
        rw [show updT (tabL (l.take k)) (x 0, x 1) (x 2, x 3, x 4, x 5) = tabL (l.take (k + 1)) by rw [HTK.out, tabL_snoc]; rfl] at C2
        have hs2 : setB2 (x 0, x 1) (x 2, x 3, x 4, x 5) = true := hs
        rw [if_pos hs2]
        clear hs hs2
        go_wp2_with fail
        go_roundg (n - (k + 1))
        case measure => omega
        case rel => exact ⟨k + 1, by omega, rfl, by go_num, .inr ⟨_, rfl⟩, HA2, C2, F2⟩
      · have HB := Lib.hid (show l.all okE = false by
          rw [Bool.eq_false_iff]
          intro h
          have := List.all_eq_true.1 h x HAL.out
          unfold okE entP entV at this
          rw [hs] at this
          cases this)
        have hs2 : ¬ setB2 (x 0, x 1) (x 2, x 3, x 4, x 5) = true := by rw [show setB2 (x 0, x 1) (x 2, x 3, x 4, x 5) = false from hs]; simp
        rw [if_neg hs2]
        clear hs hs2
        go_wp2_with fail
        go_ret2
        exact .inl ⟨HB.out, rfl, F2.out⟩
    · obtain rfl : n = k := by omega
      go_wp2_with fail
      go_ret2
      have h1 := HA.out
      have h2 := C.out
      rw [List.take_of_length_le (by rw [HN.out]; exact Nat.le_refl _)] at h1 h2
      exact .inr ⟨h1, rfl, h2, F.out⟩
end Go.Proofs.YtgblfflikgnfpaaGreat
namespace Go.Proofs.YtgblfflikgnfpaaGreat
open Go.RowKit Go.Fb
set_option linter.unusedVariables false
theorem rises_uniq {α : Type} (f : α → Int) : ∀ {A B : List α}, A.Pairwise (fun a b => f a < f b) → B.Pairwise (fun a b => f a < f b) → (∀ x, x ∈ A ↔ x ∈ B) → A = B
  | [], [], _, _, _ => rfl
  | [], b :: B, _, _, h => absurd ((h b).2 (by simp)) (by simp)
  | a :: A, [], _, _, h => absurd ((h a).1 (by simp)) (by simp)
  | a :: A, b :: B, ha, hb, h => by
    obtain ⟨a1, a2⟩ := List.pairwise_cons.1 ha
    obtain ⟨b1, b2⟩ := List.pairwise_cons.1 hb
    have hab : a = b := by
      rcases List.mem_cons.1 ((h a).1 (by simp)) with e | e
      · exact e
      · rcases List.mem_cons.1 ((h b).2 (by simp)) with e' | e'
        · exact e'.symm
        · have := b1 a e
          have := a1 b e'
          omega
    subst hab
    congr 1
    refine rises_uniq f a2 b2 fun x => ⟨fun hx => ?_, fun hx => ?_⟩
    · rcases List.mem_cons.1 ((h x).1 (List.mem_cons_of_mem _ hx)) with e | e
      · subst e; have := a1 x hx; omega
      · exact e
    · rcases List.mem_cons.1 ((h x).2 (List.mem_cons_of_mem _ hx)) with e | e
      · subst e; have := b1 x hx; omega
      · exact e
/-- The entry of a place. -/
def entF (p : Pk) (c : CV) : Nat → Int := fun j => if j = 0 then p.1 else if j = 1 then p.2 else if j = 2 then c.1 else if j = 3 then c.2.1 else if j = 4 then c.2.2.1 else c.2.2.2
/-- All places, in order. -/
def plcs : List Pk := (List.range 512).map fun i => (((i / 64 : Nat) : Int), ((i % 64 : Nat) : Int))
def rankP (p : Pk) : Int := p.1 * 64 + p.2
theorem plcs_rank : plcs.Pairwise (fun a b => rankP a < rankP b) := by
  unfold plcs
  rw [List.pairwise_map]
  refine List.Pairwise.imp ?_ List.pairwise_lt_range
  intro a b h
  unfold rankP
  omega
theorem plcs_mem (p : Pk) : p ∈ plcs ↔ thereB p = true := by
  unfold plcs thereB
  rw [decide_eq_true_iff, List.mem_map]
  constructor
  · rintro ⟨i, hi, rfl⟩
    rw [List.mem_range] at hi
    simp only
    omega
  · rintro ⟨h1, h2, h3, h4⟩
    refine ⟨(p.1 * 64 + p.2).toNat, List.mem_range.2 (by omega), ?_⟩
    obtain ⟨a, b⟩ := p
    simp only at *
    have e : ((a * 64 + b).toNat : Int) = a * 64 + b := by omega
    have e1 : (((a * 64 + b).toNat / 64 : Nat) : Int) = a := by omega
    have e2 : (((a * 64 + b).toNat % 64 : Nat) : Int) = b := by omega
    rw [e1, e2]
/-- What is kept at places that are asked for, in order. -/
def someT (q : Pk → Bool) (T : Pk → CV) : List Pk := plcs.filter fun p => decide (T p ≠ c0) && q p
def someE (q : Pk → Bool) (T : Pk → CV) : List (Nat → Int) := (someT q T).map fun p => entF p (T p)
def allT (T : Pk → CV) : List (Nat → Int) := someE (fun _ => true) T
theorem someT_mem {q : Pk → Bool} {T : Pk → CV} {p : Pk} : p ∈ someT q T ↔ thereB p = true ∧ T p ≠ c0 ∧ q p = true := by
  unfold someT
  rw [List.mem_filter, plcs_mem, Bool.and_eq_true, decide_eq_true_iff]
theorem someT_rank (q : Pk → Bool) (T : Pk → CV) : (someT q T).Pairwise (fun a b => rankP a < rankP b) := plcs_rank.sublist List.filter_sublist
/-- Is all that is kept at right places, and right? -/
def TOk (T : Pk → CV) : Prop := ∀ p, T p ≠ c0 → thereB p = true ∧ cvB (T p) = true
theorem TOk.zero : TOk (fun _ => c0) := fun p h => absurd rfl h
theorem TOk.upd {T : Pk → CV} (h : TOk T) {p : Pk} {c : CV} (hc : setB2 p c = true) : TOk (updT T p c) := by
  intro q hq
  unfold updT at hq ⊢
  unfold setB2 at hc
  rw [Bool.and_eq_true] at hc
  by_cases e : q = p
  · rw [if_pos e]; subst e; exact hc
  · rw [if_neg e] at hq ⊢; exact h q hq
theorem tabL_ok : ∀ (l : List (Nat → Int)) (T : Pk → CV), TOk T → (l.all okE = true) → TOk (l.foldl putT T)
  | [], T, h, _ => h
  | x :: l, T, h, ha => by
    rw [List.all_cons, Bool.and_eq_true] at ha
    exact tabL_ok l _ (h.upd ha.1) ha.2
/-- What has been taken out of the map so far. -/
structure TookK (es : Array MapEntry) (K K' : List Pk) (seen : Array Nat) : Prop where
  nd : K'.Nodup
  sub : ∀ p ∈ K', p ∈ K
  all : ∀ e ∈ es.toList, seen.contains e.born = true → ∃ p ∈ K', e.key = pkV p
  back : ∀ e ∈ es.toList, ∀ p ∈ K', e.key = pkV p → seen.contains e.born = true
theorem TookK.start (es : Array MapEntry) (K : List Pk) : TookK es K [] #[] := ⟨List.nodup_nil, by simp, by simp, by simp⟩
section
variable {T : Pk → CV} {es : Array MapEntry} {clock : Nat} {K K' : List Pk} {seen : Array Nat}
theorem sameK : ∀ {es : List MapEntry} {K : List Pk}, es.map (fun e => (e.key, e.val)) = K.map (fun p => (pkV p, cvV (T p))) → K.Nodup → ∀ {e e' : MapEntry}, e ∈ es → e' ∈ es → e.key = e'.key → e = e'
  | [], _, _, _, _, _, h, _, _ => by cases h
  | x :: es, [], he, _, _, _, _, _, _ => by simp at he
  | x :: es, p :: K, he, hnd, e, e', h, h', hk => by
    simp only [List.map_cons, List.cons.injEq, Prod.mk.injEq] at he
    obtain ⟨⟨hx, _⟩, he⟩ := he
    obtain ⟨hp, hnd⟩ := List.nodup_cons.1 hnd
    have far : ∀ y ∈ es, y.key ≠ pkV p := fun y hy hyp => by
      have : (y.key, y.val) ∈ K.map (fun p => (pkV p, cvV (T p))) := by rw [← he]; exact List.mem_map.2 ⟨y, hy, rfl⟩
      obtain ⟨q, hq, he2⟩ := List.mem_map.1 this
      simp only [Prod.mk.injEq] at he2
      have : q = p := pkV_inj (he2.1.trans hyp)
      exact hp (this ▸ hq)
    rcases List.mem_cons.1 h with h1 | h1 <;> rcases List.mem_cons.1 h' with h2 | h2
    · rw [h1, h2]
    · subst h1; exact absurd (hk.symm.trans hx) (far _ h2)
    · subst h2; exact absurd (hk.trans hx) (far _ h1)
    · exact sameK (K := K) he hnd h1 h2 hk
theorem entryK (he : Ents es clock K T) {e : MapEntry} (h : e ∈ es.toList) : ∃ p ∈ K, e.key = pkV p ∧ e.val = cvV (T p) := by
  have : (e.key, e.val) ∈ K.map (fun p => (pkV p, cvV (T p))) := by rw [← he.kv]; exact List.mem_map.2 ⟨e, h, rfl⟩
  obtain ⟨p, hp, h2⟩ := List.mem_map.1 this
  simp only [Prod.mk.injEq] at h2
  exact ⟨p, hp, h2.1.symm, h2.2.symm⟩
theorem TookK.step (h : TookK es K K' seen) (he : Ents es clock K T) {e : MapEntry} (hel : e ∈ (leftOf es seen).toList) {p : Pk} (hp : p ∈ K) (hk : e.key = pkV p) : TookK es K (K' ++ [p]) (seen.push e.born) := by
  have hes : e ∈ es.toList := (mem_left hel).1
  have hns : seen.contains e.born = false := by
    unfold leftOf at hel
    rw [Array.mem_toList_iff, Array.mem_filter] at hel
    simpa using hel.2
  have hpn : p ∉ K' := fun hc => by rw [h.back e hes p hc hk] at hns; cases hns
  refine ⟨?_, fun q hq => ?_, fun y hy hs => ?_, fun y hy q hq hyq => ?_⟩
  · rw [List.nodup_append]
    exact ⟨h.nd, by simp, fun a ha b hb => by rw [List.mem_singleton] at hb; subst hb; exact fun e => hpn (e ▸ ha)⟩
  · rcases List.mem_append.1 hq with hq | hq
    · exact h.sub q hq
    · rw [List.mem_singleton] at hq; subst hq; exact hp
  · rw [contains_push] at hs
    cases hc : seen.contains y.born with
    | true =>
      obtain ⟨q, hq, hyq⟩ := h.all y hy hc
      exact ⟨q, List.mem_append_left _ hq, hyq⟩
    | false =>
      rw [hc, Bool.false_or, beq_iff_eq] at hs
      have hye : y = e := by
        have a := find_born y es.toList he.born hy
        have b := find_born e es.toList he.born hes
        rw [hs, b] at a
        injection a with a
        exact a.symm
      subst hye
      exact ⟨p, by simp, hk⟩
  · rw [contains_push]
    rcases List.mem_append.1 hq with hq | hq
    · rw [h.back y hy q hq hyq, Bool.true_or]
    · rw [List.mem_singleton] at hq
      subst hq
      have : y = e := sameK he.kv he.nd hy hes (hyq.trans hk.symm)
      subst this
      simp
theorem TookK.done (h : TookK es K K' seen) (he : Ents es clock K T) (h0 : (leftOf es seen).size = 0) : ∀ p, p ∈ K' ↔ T p ≠ c0 := by
  refine fun p => ⟨fun hp => (he.mem p).1 (h.sub p hp), fun hp => ?_⟩
  have hp := (he.mem p).2 hp
  have : (pkV p, cvV (T p)) ∈ es.toList.map (fun e => (e.key, e.val)) := by
    rw [he.kv]
    exact List.mem_map.2 ⟨p, hp, rfl⟩
  obtain ⟨e, hes, h2⟩ := List.mem_map.1 this
  simp only [Prod.mk.injEq] at h2
  have hs : seen.contains e.born = true := by
    cases hc : seen.contains e.born with
    | true => rfl
    | false =>
      exfalso
      have hm : e ∈ leftOf es seen := by unfold leftOf; rw [Array.mem_filter]; exact ⟨by simpa using hes, by rw [hc]; rfl⟩
      have : leftOf es seen = #[] := Array.eq_empty_of_size_eq_zero h0
      rw [this] at hm
      simp at hm
  obtain ⟨q, hq, hk⟩ := h.all e hes hs
  rw [h2.1] at hk
  rw [pkV_inj hk]
  exact hq
end
theorem stB_fr (w : World) (r : Nat) (o : Obj) : Fr w.heap.size [r] w (Go.ChangeMaps.setBlock w r o) :=
  ⟨rfl, rfl, rfl, by simp [Go.ChangeMaps.setBlock], fun k _ hk => by
    have : r ≠ k := fun h => hk (by simp [h])
    simp [Go.ChangeMaps.setBlock, this]⟩
theorem stB_new {w : World} {r : Nat} (h : r < w.heap.size) (o : Obj) : (Go.ChangeMaps.setBlock w r o).heap[r]? = some o := by simp [Go.ChangeMaps.setBlock, h]
theorem seen_of {w : World} {r : Nat} {m : Option Nat} {a c : Nat} {s : Array Nat} (h : w.heap[r]? = some (.mapIter m a s c)) : w.iterSeen r = s := by
  unfold World.iterSeen; rw [h]
end Go.Proofs.YtgblfflikgnfpaaGreat
