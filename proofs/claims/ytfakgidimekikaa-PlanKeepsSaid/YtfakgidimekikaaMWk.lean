/- Texts merged into one, for the number of files a claim may have: WkA, WkB, WkC. -/
import Derived.Test.YtfakgidimekikaaMG
import Derived.Test.YtfakgidimekikaaMNdDel
import Derived.Test.YtfakgidimekikaaMD
import Derived.Test.YtfakgidimekikaaMA
import Derived.Deep.RegionLaw
import Derived.Deep.RegionHeld3
import Derived.Deep.DeepCutAuto
import Derived.BigRegion
namespace Go.Proofs.Ytfakgidimekikaa
open Go.RowKit Go.Fb
abbrev wkA (v : Value) (kd : Int) (x : Nd) (rs : Bool) (sf sp : Value) (i : Int) : Array Value := #[v, .int .i64 kd, .int .i64 x.id, .int .i64 x.kind, sf, sp, .int .i64 x.par, .int .i64 (x.rt 0), .int .i64 (x.rt 1), .int .i64 (x.rt 2), .int .i64 (x.rt 3), .int .i64 (x.rt 4), .int .i64 (x.rt 5), .int .i64 (x.rt 6), .int .i64 (x.rt 7), .bool rs, .int .i64 i]
/-- A node's two slices lie outside two blocks. -/
structure Apart (gw gr : Nat) (w : World) (m : Ndm) : Prop where
  inn : NdIn w w.heap.size m
  r1 : Off (some gr) m.2.1
  r2 : Off (some gr) m.2.2
  w1 : Off (some gw) m.2.1
  w2 : Off (some gw) m.2.2
theorem Apart.keep {gw gr : Nat} {w w' : World} {m : Ndm} (h : Apart gw gr w m) (hf : Fr w.heap.size [gw, gr] w w') : Apart gw gr w' m := by
  obtain ⟨⟨⟨A, c, h1, h2⟩, ⟨A', c', h3, h4⟩⟩, r1, r2, w1, w2⟩ := h
  refine ⟨⟨⟨A, c, h1, (h2.frL hf (Nat.le_refl _) fun hn ad ha hm => ?_).more hf.size⟩, ⟨A', c', h3, (h4.frL hf (Nat.le_refl _) fun hn ad ha hm => ?_).more hf.size⟩⟩, r1, r2, w1, w2⟩
  · have a1 := r1 A _ c h1 hn ad ha
    have a2 := w1 A _ c h1 hn ad ha
    simp at hm
    rcases hm with hm | hm
    · rw [hm] at a2; exact a2 rfl
    · rw [hm] at a1; exact a1 rfl
  · have a1 := r2 A' _ c' h3 hn ad ha
    have a2 := w2 A' _ c' h3 hn ad ha
    simp at hm
    rcases hm with hm | hm
    · rw [hm] at a2; exact a2 rfl
    · rw [hm] at a1; exact a1 rfl
def SwapOut (k : Int) (b : Bool) (gr o : Nat) (sp : Value) (w : World) (e : Ending) (w' : World) : Prop :=
  (e = .returned (.int .i64 11) ∧ k ≠ 1 ∧ Fr w.heap.size [] w w') ∨ (e = .returned (.int .i64 9) ∧ k = 1 ∧ b = false ∧ Fr w.heap.size [] w w') ∨
      (e = .returned (.int .i64 0) ∧ k = 1 ∧ b = true ∧ ∃ wz, Fr w.heap.size [] w wz ∧ w' = wz.setCell ⟨gr, o + 3, none⟩ sp)
set_option maxRecDepth 100000 in
set_option maxHeartbeats 1000000 in
theorem swap_any (v : Value) (kd : Int) (y : Nd) (rs : Bool) (sf sp : Value) (i : Int) (gw gr o : Nat) (k : Int) (tp : Value) (w : World) (hb : Blk w gw 64 (wkA v kd y rs sf sp i))
    (c1 : w.cell? ⟨gr, o + 1, none⟩ = some (.int .i64 k)) (c3 : w.cell? ⟨gr, o + 3, none⟩ = some tp) (z3 : w.frozen? ⟨gr, o + 3, none⟩ = false) (hlt : gr < w.heap.size) (hst : NdIn w w.heap.size (y, sf, sp)) (h2 : y.pg.length ≤ 1000000) :
    Calls Try.prog 45 #[.pointer (some ⟨gw, 0, none⟩), .pointer (some ⟨gr, o, none⟩)] w (SwapOut k (chkL y.pg).isSome gr o sp w) := by
  obtain ⟨_, ⟨Ap, cp, hp1, hp2⟩⟩ := hst
  simp only at hp1 hp2
  subst hp1
  have HS := Lib.hid (safe_any (c := cp) hp2 (Nat.le_refl _) (by unfold maxLen; omega))
  obtain ⟨np, hnp⟩ : ∃ z, z = y.pg.length := ⟨_, rfl⟩
  obtain ⟨b, hbb⟩ : ∃ z, z = (chkL y.pg).isSome := ⟨_, rfl⟩
  rw [← hnp, ← hbb] at HS
  rw [← hbb]
  rw [← hnp] at hb ⊢
  have q5 := hb.cell 5
  simp at q5
  have HC3 := Lib.hid c3
  have HZ3 := Lib.hid z3
  have HB := Lib.hid hb
  clear hp2 hnp hbb hb c3 z3
  by_cases hk : k = 1
  · subst hk
    cases b with
    | false =>
      go_enter Try.func45, Try.ntmps45
      go_wp2_with fail
      refine HS.out.mono ?_
      rintro e w1 ⟨rfl, f1⟩
      have F1 := Lib.hid f1
      clear f1 HS
      go_wp2_with fail
      go_ret
      exact .inr (.inl ⟨rfl, rfl, rfl, F1.out⟩)
    | true =>
      have Q5 := Lib.hid q5
      go_enter Try.func45, Try.ntmps45
      go_wp2_with fail
      refine HS.out.mono ?_
      rintro e w1 ⟨rfl, f1⟩
      have F1 := Lib.hid f1
      have r5 := (f1.cell (p := ⟨gw, 5, none⟩) HB.out.lt (by simp)).trans Q5.out
      have r3 := (f1.cell (p := ⟨gr, o + 3, none⟩) hlt (by simp)).trans HC3.out
      have s3 := (f1.frozen (p := ⟨gr, o + 3, none⟩) hlt (by simp)).trans HZ3.out
      clear f1 HS q5 c1
      go_wp2_with fail
      go_ret
      exact .inr (.inr ⟨rfl, rfl, rfl, w1, F1.out, rfl⟩)
  · go_enter Try.func45, Try.ntmps45
    go_wp2_with fail
    go_ret
    exact .inl ⟨rfl, hk, Fr.refl _ _ _⟩
def AddOut (kd : Int) (y : Nd) (rs : Bool) (sf sp : Value) (i : Int) (gw gr n : Nat) (M : List Ndm) (w : World) (e : Ending) (w' : World) : Prop :=
  (0 ≤ i ∧ e = .returned (.int .i64 13) ∧ Fr w.heap.size [] w w') ∨ (i < 0 ∧ y.kind = 0 ∧ e = .returned (.int .i64 11) ∧ Fr w.heap.size [] w w') ∨
      (i < 0 ∧ y.kind ≠ 0 ∧ e = .returned (.int .i64 0) ∧ ∃ A' c', Blk w' gw 64 (wkA (.slice A' (n + 1) c') kd y rs sf sp i) ∧ w'.ownsRow 0 35 13 (.slice A' (n + 1) c') (n + 1) (cellsN (M ++ [(y, sf, sp)])) ∧ Fr w.heap.size [gw, gr] w w')
set_option maxRecDepth 100000 in
set_option maxHeartbeats 2000000 in
theorem add_any (n c : Nat) (kd : Int) (y : Nd) (rs : Bool) (sf sp : Value) (i : Int) (gw gr : Nat) (M : List Ndm) (w : World) (hb : Blk w gw 64 (wkA (.slice (some ⟨gr, 0, none⟩) n c) kd y rs sf sp i))
    (ho : w.ownsRow 0 35 13 (.slice (some ⟨gr, 0, none⟩) n c) n (cellsN M)) (hn : n ≤ 1000000) (hst : NdIn w w.heap.size (y, sf, sp)) (hne : gw ≠ gr) :
    Calls Try.prog 31 #[.pointer (some ⟨gw, 0, none⟩)] w (AddOut kd y rs sf sp i gw gr n M w) := by
  obtain ⟨⟨Af, cf, hf1, _⟩, ⟨Ap, cp, hp1, _⟩⟩ := hst
  simp only at hf1 hp1
  subst hf1
  subst hp1
  obtain ⟨nf, hnf⟩ : ∃ z, z = y.fr.length := ⟨_, rfl⟩
  obtain ⟨np, hnp⟩ : ∃ z, z = y.pg.length := ⟨_, rfl⟩
  rw [← hnf, ← hnp] at hb ⊢
  have HB := Lib.hid hb
  have HO := Lib.hid ho
  have hlw := hb.lt
  have hlr := (ho.lt gr rfl).2
  have q16 := hb.cell 16
  have q3 := hb.cell 3
  simp at q16 q3
  clear hnf hnp hb ho
  by_cases hi : 0 ≤ i
  · go_enter Try.func31, Try.ntmps31
    go_wp2_with fail
    go_ret
    exact .inl ⟨hi, rfl, Fr.refl _ _ _⟩
  by_cases hk : y.kind = 0
  · have HK := Lib.hid hk
    rw [hk] at q3
    clear hk
    go_enter Try.func31, Try.ntmps31
    go_wp2_with fail
    go_ret
    exact .inr (.inl ⟨by omega, HK.out, rfl, Fr.refl _ _ _⟩)
  · have HK := Lib.hid hk
    have hkb : (y.kind == 0) = false := by simpa using hk
    have hi2 : i < 0 := by omega
    clear hk
    have q0 := HB.out.cell 0
    have q2 := HB.out.cell 2
    have q4 := HB.out.cell 4
    have q5 := HB.out.cell 5
    have q6 := HB.out.cell 6
    have q7 := HB.out.cell 7
    have q8 := HB.out.cell 8
    have q9 := HB.out.cell 9
    have q10 := HB.out.cell 10
    have q11 := HB.out.cell 11
    have q12 := HB.out.cell 12
    have q13 := HB.out.cell 13
    have q14 := HB.out.cell 14
    simp at q0 q2 q4 q5 q6 q7 q8 q9 q10 q11 q12 q13 q14
    have BN := Lib.hid (Blk.new w.drew 35 (ndA y (.slice Af nf cf) (.slice Ap np cp)))
    have RN := Lib.hid (Reads.of_blk (size := 13) (m := 1) BN.out rfl)
    have HOA := Lib.hid (ownsRow_fr HO.out (((Fr.refl w.heap.size [] w).drew).alloc (Nat.le_refl _) (.cells (ndA y (.slice Af nf cf) (.slice Ap np cp)) 35)) (fun q hq => ⟨(HO.out.lt q hq).2, by simp⟩))
    have HBA := Lib.hid (HB.out.drew.alloc (.cells (ndA y (.slice Af nf cf) (.slice Ap np cp)) 35))
    have FA := Lib.hid (((Fr.refl w.heap.size [gw, gr] w).drew).alloc (Nat.le_refl _) (.cells (ndA y (.slice Af nf cf) (.slice Ap np cp)) 35))
    have hone := Lib.hid (@ndOne y Af Ap nf cf np cp)
    go_enter Try.func31, Try.ntmps31
    go_upto_region 5 with fail
    go_region_law
      ((refine step_app (by rfl) (.tmp 21) (.tmp 27) nodeTy (by rfl) 0 (.slice (some ⟨gr, 0, none⟩) n c) n _ (by rfl) HOA.out (w.heap.size + 1) (some ⟨w.heap.size, 0, none⟩) 1 1 (ndA y (.slice Af nf cf) (.slice Ap np cp)).toList (by rfl) RN.out hone.out (by omega) (by omega) (by simp) ?_; intro A6 c6 w6 hown6 hg6 hat6; have hfz6 : w6.frozen? ⟨gw, 0, none⟩ = false := (hg6.frozen_far ⟨gw, 0, none⟩ (by simp; omega) (by simp [Value.ownBlock]; exact hne)).trans (HBA.out.frozen 0); have hcl6 : w6.cell? ⟨gw, 0, none⟩ = some (.slice (some ⟨gr, 0, none⟩) n c) := (hg6.cell_far ⟨gw, 0, none⟩ (by simp; omega) (by simp [Value.ownBlock]; exact hne)).trans (HBA.out.cell 0)))
    all_goals
      go_wp2_with fail
      go_ret
      have hb6 := (HBA.out.grown hg6 (by simp [Value.ownBlock]; exact hne)).set_ 0 (.slice A6 (n + 1) c6)
      simp only [List.setIfInBounds_toArray, List.set_cons_zero] at hb6
      have hlt6 := hown6.lt
      have f6 := (Fr.refl w6.heap.size [gw] w6).setCell (p := ⟨gw, 0, none⟩) (.inr (by simp)) (.slice A6 (n + 1) c6)
      have ho6 := ownsRow_fr hown6 f6 (fun q hq => ⟨(hlt6 q hq).2, by
        rw [hq] at hat6
        simp [Value.ownBlock] at hat6
        simp
        rcases hat6 with h | h
        · rw [h]; exact Ne.symm hne
        · omega⟩)
      rw [show cellsN M ++ (ndA y (.slice Af nf cf) (.slice Ap np cp)).toList = cellsN (M ++ [(y, .slice Af nf cf, .slice Ap np cp)]) by rw [cellsN_app]; simp [cellsN, ndL]] at ho6
      exact .inr (.inr ⟨hi2, HK.out, rfl, A6, c6, hb6, ho6, (FA.out.grown hg6 (by simp) (fun q hq => .inr (by simp [Value.ownBlock] at hq; simp [hq]))).setCell (p := ⟨gw, 0, none⟩) (.inr (by simp)) _⟩)
end Go.Proofs.Ytfakgidimekikaa
namespace Go.Proofs.Ytfakgidimekikaa
open Go.RowKit Go.Fb
set_option linter.unusedVariables false
/-- What a step's change leaves. -/
def ChgOut (r : Int × List Nd) (kd : Int) (y : Nd) (rs : Bool) (sf sp : Value) (i : Int) (gw gr : Nat) (w : World) (e : Ending) (w' : World) : Prop :=
  (r.1 ≠ 0 ∧ e = .returned (.int .i64 r.1) ∧ Fr w.heap.size [gw, gr] w w') ∨
  (r.1 = 0 ∧ e = .returned (.int .i64 0) ∧ ∃ A' n' c' M', Blk w' gw 64 (wkA (.slice A' n' c') kd y rs sf sp i) ∧ w'.ownsRow 0 35 13 (.slice A' n' c') n' (cellsN M') ∧ n' = M'.length ∧ (∀ m ∈ M', Apart gw gr w' m) ∧ fstN M' = r.2 ∧ Fr w.heap.size [gw, gr] w w')
/-- What there is ahead of a change. -/
structure Wk (gw gr n c : Nat) (kd : Int) (y : Nd) (rs : Bool) (sf sp : Value) (i : Int) (M : List Ndm) (w : World) : Prop where
  blk : Blk w gw 64 (wkA (.slice (some ⟨gr, 0, none⟩) n c) kd y rs sf sp i)
  own : w.ownsRow 0 35 13 (.slice (some ⟨gr, 0, none⟩) n c) n (cellsN M)
  num : n = M.length
  each : ∀ m ∈ M, Apart gw gr w m
  st : Apart gw gr w (y, sf, sp)
  ne : gw ≠ gr
theorem Wk.keep {gw gr n c : Nat} {kd : Int} {y : Nd} {rs : Bool} {sf sp : Value} {i : Int} {M : List Ndm} {w w' : World} (h : Wk gw gr n c kd y rs sf sp i M w) (hf : Fr w.heap.size [] w w') : Wk gw gr n c kd y rs sf sp i M w' :=
  ⟨h.blk.fr hf h.blk.lt (by simp), ownsRow_fr h.own hf (fun q hq => ⟨(h.own.lt q hq).2, by simp⟩), h.num, fun m hm => (h.each m hm).keep (hf.mono (Nat.le_refl _) (by simp)), h.st.keep (hf.mono (Nat.le_refl _) (by simp)), h.ne⟩
theorem Wk.nds {gw gr n c : Nat} {kd : Int} {y : Nd} {rs : Bool} {sf sp : Value} {i : Int} {M : List Ndm} {w : World} (h : Wk gw gr n c kd y rs sf sp i M w) : Nds w w.heap.size (some ⟨gr, 0, none⟩) n M :=
  ⟨h.num, Reads.of_own h.own, fun m hm => (h.each m hm).inn⟩
theorem find_here {M : List Ndm} {k : Nat} {m : Ndm} {id : Int} (hu : (idsN (fstN M)).Nodup) (hk : M[k]? = some m) (hid : m.1.id = id) : findN (fstN M) id = some m.1 := by
  rw [← hid]
  exact findN_one hu (List.mem_map.2 ⟨m, List.mem_of_getElem? hk, rfl⟩)
theorem ids_apart {M : List Ndm} (hu : (idsN (fstN M)).Nodup) {k j : Nat} {a b : Ndm} (ha : M[k]? = some a) (hb : M[j]? = some b) (h : a.1.id = b.1.id) : k = j := by
  have h1 : (idsN (fstN M))[k]? = some a.1.id := by simp [idsN, fstN, ha]
  have h2 : (idsN (fstN M))[j]? = some b.1.id := by simp [idsN, fstN, hb]
  rw [h] at h1
  obtain ⟨hk, e1⟩ := List.getElem?_eq_some_iff.1 h1
  obtain ⟨hj, e2⟩ := List.getElem?_eq_some_iff.1 h2
  exact (List.getElem_inj hu).1 (e1.trans e2.symm)
theorem upd_here {M : List Ndm} {k : Nat} {m : Ndm} {id : Int} (hu : (idsN (fstN M)).Nodup) (hk : M[k]? = some m) (hid : m.1.id = id) (f : Nd → Nd) (tf tp : Value) : fstN (M.set k (f m.1, tf, tp)) = updN (fstN M) id f := by
  apply List.ext_getElem?
  intro j
  have hkl : k < M.length := (List.getElem?_eq_some_iff.1 hk).1
  unfold updN fstN
  rw [List.getElem?_map, List.getElem?_map, List.getElem?_map]
  by_cases hj : k = j
  · subst hj
    rw [List.getElem?_set_self hkl, hk]
    simp [hid]
  · rw [List.getElem?_set_ne hj]
    cases h : M[j]? with
    | none => rfl
    | some b =>
      have : b.1.id ≠ id := fun e => hj (ids_apart hu hk h (hid.trans e.symm))
      simp [this]
theorem del_here {M : List Ndm} {k : Nat} {m : Ndm} {id : Int} (hu : (idsN (fstN M)).Nodup) (hk : M[k]? = some m) (hid : m.1.id = id) : fstN (M.take k ++ M.drop (k + 1)) = delN (fstN M) id := by
  have hkl : k < M.length := (List.getElem?_eq_some_iff.1 hk).1
  have hsp : M = M.take k ++ m :: M.drop (k + 1) := by
    rw [show m = M[k] from (List.getElem?_eq_some_iff.1 hk).2.symm, ← List.drop_eq_getElem_cons hkl, List.take_append_drop]
  have ht : ∀ b ∈ M.take k, b.1.id ≠ id := fun b hb e => by
    obtain ⟨j, hj, rfl⟩ := List.mem_iff_getElem.1 hb
    rw [List.length_take] at hj
    have := ids_apart hu hk (List.getElem?_eq_getElem (show j < M.length by omega)) (by rw [hid, ← e, List.getElem_take])
    omega
  have hd : ∀ b ∈ M.drop (k + 1), b.1.id ≠ id := fun b hb e => by
    obtain ⟨j, hj, rfl⟩ := List.mem_iff_getElem.1 hb
    rw [List.length_drop] at hj
    have := ids_apart hu hk (List.getElem?_eq_getElem (show k + 1 + j < M.length by omega)) (by rw [hid, ← e, List.getElem_drop])
    omega
  unfold delN fstN
  conv => rhs; rw [hsp]
  rw [List.map_append, List.map_append, List.filter_append, List.map_cons, List.filter_cons]
  rw [if_neg (by simp [hid]), List.filter_eq_self.2 (by
    intro x hx
    obtain ⟨b, hb, rfl⟩ := List.mem_map.1 hx
    simpa using ht b hb), List.filter_eq_self.2 (by
    intro x hx
    obtain ⟨b, hb, rfl⟩ := List.mem_map.1 hx
    simpa using hd b hb)]
/-- One cell of a node in a row is stored. -/
theorem nd_set {w : World} {gr n c k j : Nat} {M : List Ndm} {m m' : Ndm} {u : Value} (ho : w.ownsRow 0 35 13 (.slice (some ⟨gr, 0, none⟩) n c) n (cellsN M)) (hk : M[k]? = some m) (hj : j < 13) (hu : ndL m' = (ndL m).set j u) :
    (w.setCell ⟨gr, k * 13 + j, none⟩ u).ownsRow 0 35 13 (.slice (some ⟨gr, 0, none⟩) n c) n (cellsN (M.set k m')) := by
  have h := ownsRow_setN ho (k * 13 + j) u
  have hkl : k < M.length := (List.getElem?_eq_some_iff.1 hk).1
  rw [show cellsN (M.set k m') = (cellsN M).set (k * 13 + j) u by
    apply List.ext_getElem?
    intro q
    have hl : (cellsN M).length = M.length * 13 := cellsN_length M
    rcases Nat.lt_or_ge q (M.length * 13) with hq | hq
    · have hq13 : q / 13 < M.length := by omega
      obtain ⟨a, ha⟩ : ∃ a, M[q / 13]? = some a := ⟨_, List.getElem?_eq_getElem hq13⟩
      have hqe : q = q / 13 * 13 + q % 13 := by omega
      by_cases hkq : k = q / 13
      · have e1 : (cellsN (M.set k m'))[q]? = (ndL m')[q % 13]? := by
          conv => lhs; rw [hqe]
          exact cellsN_get (by rw [← hkq, List.getElem?_set_self hkl]) _ (by omega)
        have e2 : (cellsN M)[q]? = (ndL m)[q % 13]? := by
          conv => lhs; rw [hqe]
          exact cellsN_get (by rw [← hkq]; exact hk) _ (by omega)
        rw [e1, hu]
        by_cases hjq : j = q % 13
        · rw [← hjq, List.getElem?_set_self (by simp [ndL]; omega), show q = k * 13 + j by omega, List.getElem?_set_self (by rw [hl]; omega)]
        · rw [List.getElem?_set_ne hjq, List.getElem?_set_ne (by omega), e2]
      · have e1 : (cellsN (M.set k m'))[q]? = (ndL a)[q % 13]? := by
          conv => lhs; rw [hqe]
          exact cellsN_get (by rw [List.getElem?_set_ne hkq]; exact ha) _ (by omega)
        have e2 : (cellsN M)[q]? = (ndL a)[q % 13]? := by
          conv => lhs; rw [hqe]
          exact cellsN_get ha _ (by omega)
        rw [e1, List.getElem?_set_ne (by omega), e2]
    · rw [List.getElem?_eq_none (by rw [cellsN_length, List.length_set]; exact hq), List.getElem?_eq_none (by rw [List.length_set, hl]; exact hq)]]
  exact h
theorem setAt_left (b : List Value) (o : Nat) : ∀ (us : List Value) (a : List Value) (j : Nat), o + j + us.length ≤ a.length → setAt (a ++ b) o j us = setAt a o j us ++ b
  | [], _, _, _ => rfl
  | u :: us, a, j, h => by
    have h1 : us.length + 1 + (o + j) ≤ a.length := by rw [List.length_cons] at h; omega
    show setAt ((a ++ b).set (o + j) u) o (j + 1) us = setAt (a.set (o + j) u) o (j + 1) us ++ b
    rw [List.set_append_left _ _ (by omega)]
    exact setAt_left b o us _ _ (by rw [List.length_set]; omega)
theorem cells_put {M : List Ndm} {k : Nat} {m m' : Ndm} (hk : M[k]? = some m) (o : Nat) (us : List Value) (ho : o + us.length ≤ 13) (hm : ndL m' = setAt (ndL m) o 0 us) : cellsN (M.set k m') = setAt (cellsN M) (k * 13 + o) 0 us := by
  have hkl : k < M.length := (List.getElem?_eq_some_iff.1 hk).1
  have hsp : M = M.take k ++ m :: M.drop (k + 1) := by
    rw [show m = M[k] from (List.getElem?_eq_some_iff.1 hk).2.symm, ← List.drop_eq_getElem_cons hkl, List.take_append_drop]
  have h1 : cellsN M = cellsN (M.take k) ++ (ndL m ++ cellsN (M.drop (k + 1))) := by
    conv => lhs; rw [hsp]
    rw [cellsN_app]
    rfl
  have h2 : cellsN (M.set k m') = cellsN (M.take k) ++ (ndL m' ++ cellsN (M.drop (k + 1))) := by
    rw [List.set_eq_take_append_cons_drop, if_pos hkl, cellsN_app]
    rfl
  have hl : k * 13 = (cellsN (M.take k)).length := by rw [cellsN_length, List.length_take]; omega
  rw [h1, h2, hl, setAt_app, setAt_left _ _ _ _ _ (by have : (ndL m).length = 13 := rfl; omega), hm]
theorem far_setW {g k t : Nat} (hk : k ≠ g) (o : Nat) : ∀ (us : List Value) (j : Nat) (w : World) {cs : Array Value}, Blk w k t cs → Blk (setW w g o j us) k t cs
  | [], _, _, _, h => h
  | u :: us, j, w, _, h => far_setW hk o us (j + 1) _ (h.far (p := ⟨g, o + j, none⟩) hk u)
theorem nest_nine (w : World) (g o : Nat) (u4 u5 u6 u7 u8 u9 u10 u11 u12 : Value) : ((((((((w.setCell ⟨g, o + 4, none⟩ u4).setCell ⟨g, o + 5, none⟩ u5).setCell ⟨g, o + 5 + 1, none⟩ u6).setCell ⟨g, o + 5 + 2, none⟩ u7).setCell ⟨g, o + 5 + 3, none⟩ u8).setCell ⟨g, o + 5 + 4, none⟩ u9).setCell ⟨g, o + 5 + 5, none⟩ u10).setCell ⟨g, o + 5 + 6, none⟩ u11).setCell ⟨g, o + 5 + 7, none⟩ u12 = setW w g (o + 4) 0 [u4, u5, u6, u7, u8, u9, u10, u11, u12] := by
  simp only [setW, Nat.add_assoc, Nat.reduceAdd, Nat.add_zero]
set_option maxRecDepth 100000 in
theorem change_none (gw gr n c : Nat) (kd : Int) (y : Nd) (rs : Bool) (sf sp : Value) (i : Int) (M : List Ndm) (w : World) (h : Wk gw gr n c kd y rs sf sp i M w) (hi : i < 0) :
    Calls Try.prog 32 #[.pointer (some ⟨gw, 0, none⟩)] w (ChgOut (12, []) kd y rs sf sp i gw gr w) := by
  have q16 := h.blk.cell 16
  simp at q16
  clear h
  go_enter Try.func32, Try.ntmps32
  go_wp2_with fail
  go_ret
  exact .inl ⟨by simp, rfl, Fr.refl _ _ _⟩
set_option maxRecDepth 100000 in
set_option maxHeartbeats 2000000 in
theorem change_swap (gw gr n c k : Nat) (y : Nd) (rs : Bool) (sf sp : Value) (M : List Ndm) (m : Ndm) (w : World) (h : Wk gw gr n c 1 y rs sf sp k M w) (hk : M[k]? = some m) (hid : m.1.id = y.id) (hu : (idsN (fstN M)).Nodup) (h2 : y.pg.length ≤ 1000000) :
    Calls Try.prog 32 #[.pointer (some ⟨gw, 0, none⟩)] w (ChgOut (chgN (fstN M) ⟨1, y, rs⟩) 1 y rs sf sp k gw gr w) := by
  have hkl : k < M.length := (List.getElem?_eq_some_iff.1 hk).1
  have q16 := h.blk.cell 16
  have q0 := h.blk.cell 0
  have q1 := h.blk.cell 1
  simp at q16 q0 q1
  obtain ⟨x, tf, tp⟩ := m
  simp only at hid
  obtain ⟨g0, g1, g2, g3, g4, g5, g6, g7, g8, g9, g10, g11, g12⟩ := ndL_get (x, tf, tp)
  have HSW := Lib.hid (fun (wx : World) (hx : Fr w.heap.size [] w wx) => (swap_any (.slice (some ⟨gr, 0, none⟩) n c) 1 y rs sf sp k gw gr (k * 13) x.kind tp wx (h.keep hx).blk (nd_cell (h.keep hx).own hk 1 _ g1) (nd_cell (h.keep hx).own hk 3 _ g3) ((h.keep hx).own.frozenAt _) (((h.keep hx).own.lt gr rfl).2) (h.keep hx).st.inn h2))
  obtain ⟨r, hr⟩ : ∃ r, r = chgN (fstN M) ⟨1, y, rs⟩ := ⟨_, rfl⟩
  have HR := Lib.hid (show r = if x.kind = 1 then (if (chkL y.pg).isSome = true then (0, updN (fstN M) y.id (pgN y.pg)) else (9, [])) else (11, []) by
    rw [hr]
    unfold chgN
    rw [find_here hu hk hid]
    simp)
  rw [← hr]
  have HUP := Lib.hid (upd_here hu hk hid (pgN y.pg) tf sp)
  have HK := Lib.hid hk
  have H := Lib.hid h
  have hk0 : (0 : Int) ≤ (k : Int) := by omega
  have hkn : (k : Int) < (n : Int) := by have := h.num; omega
  have HKL := Lib.hid hkl
  clear h hk hid hu g0 g1 g2 g3 g4 g5 g6 g7 g8 g9 g10 g11 g12 hkl hr
  go_enter Try.func32, Try.ntmps32
  go_upto_region 3 with fail
  go_region
  have q1' : w.drew.cell? ⟨gw, 1, none⟩ = some (.int .i64 1) := q1
  go_wp2_with fail
  refine (HSW.out _ (Fr.refl _ _ _).drew).mono ?_
  rintro e w1 h1
  have hf0 := (Fr.refl w.heap.size [] w).drew
  rcases h1 with ⟨rfl, e1, f1⟩ | ⟨rfl, e1, e2, f1⟩ | ⟨rfl, e1, e2, wz, f1, rfl⟩
  · have HR1 := Lib.hid (show r = (11, []) by rw [HR.out, if_neg e1])
    have F1 := Lib.hid ((hf0.trans f1).mono (B' := w.heap.size) (L' := [gw, gr]) (Nat.le_refl _) (by simp))
    clear f1 hf0 HR
    go_wp2_with fail
    go_ret
    rw [HR1.out]
    exact .inl ⟨by simp, rfl, F1.out⟩
  · have HR1 := Lib.hid (show r = (9, []) by rw [HR.out, if_pos e1, e2]; rfl)
    have F1 := Lib.hid ((hf0.trans f1).mono (B' := w.heap.size) (L' := [gw, gr]) (Nat.le_refl _) (by simp))
    clear f1 hf0 HR e2
    go_wp2_with fail
    go_ret
    rw [HR1.out]
    exact .inl ⟨by simp, rfl, F1.out⟩
  · have HR1 := Lib.hid (show r = (0, updN (fstN M) y.id (pgN y.pg)) by rw [HR.out, if_pos e1, if_pos e2])
    have hf1 := hf0.trans f1
    have hwk := H.out.keep hf1
    have f2 := (Fr.refl wz.heap.size [gw, gr] wz).setCell (p := ⟨gr, k * 13 + 3, none⟩) (.inr (by simp)) sp
    have ho2 := nd_set (m' := (pgN y.pg x, tf, sp)) (u := sp) hwk.own HK.out (j := 3) (by omega) rfl
    have HO2 := Lib.hid ho2
    have HB2 := Lib.hid (hwk.blk.far (p := ⟨gr, k * 13 + 3, none⟩) hwk.ne sp)
    have HA2 := Lib.hid (show ∀ m' ∈ M.set k (pgN y.pg x, tf, sp), Apart gw gr (wz.setCell ⟨gr, k * 13 + 3, none⟩ sp) m' from fun m' hm' => by
      rcases List.mem_or_eq_of_mem_set hm' with hm' | rfl
      · exact (hwk.each m' hm').keep f2
      · have a := (hwk.each _ (List.mem_of_getElem? HK.out)).keep f2
        have b := hwk.st.keep f2
        exact ⟨⟨a.inn.fr, b.inn.pg⟩, a.r1, b.r2, a.w1, b.w2⟩)
    have F2 := Lib.hid ((hf1.mono (B' := w.heap.size) (L' := [gw, gr]) (Nat.le_refl _) (by simp)).trans (f2.mono (B' := w.heap.size) (L' := [gw, gr]) hf1.size (by simp)))
    have HN := Lib.hid (show n = (M.set k (pgN y.pg x, tf, sp)).length by rw [List.length_set]; exact hwk.num)
    clear ho2 hwk f2 hf1 hf0 f1 HR e2 q1'
    generalize wz.setCell ⟨gr, k * 13 + 3, none⟩ sp = w2 at *
    go_wp2_with fail
    go_ret
    rw [HR1.out]
    exact .inr ⟨rfl, rfl, _, n, c, _, HB2.out, HO2.out, HN.out, HA2.out, HUP.out, F2.out⟩
set_option maxRecDepth 100000 in
set_option maxHeartbeats 2000000 in
theorem change_link (gw gr n c k : Nat) (y : Nd) (rs : Bool) (sf sp : Value) (M : List Ndm) (m : Ndm) (w : World) (h : Wk gw gr n c 5 y rs sf sp k M w) (hk : M[k]? = some m) (hid : m.1.id = y.id) (hu : (idsN (fstN M)).Nodup) :
    Calls Try.prog 32 #[.pointer (some ⟨gw, 0, none⟩)] w (ChgOut (chgN (fstN M) ⟨5, y, rs⟩) 5 y rs sf sp k gw gr w) := by
  have hkl : k < M.length := (List.getElem?_eq_some_iff.1 hk).1
  obtain ⟨x, tf, tp⟩ := m
  simp only at hid
  obtain ⟨g0, g1, g2, g3, g4, g5, g6, g7, g8, g9, g10, g11, g12⟩ := ndL_get (x, tf, tp)
  obtain ⟨r, hr⟩ : ∃ r, r = chgN (fstN M) ⟨5, y, rs⟩ := ⟨_, rfl⟩
  have HR := Lib.hid (show r = if x.kind = 2 then (0, updN (fstN M) y.id (frN y.fr)) else (11, []) by
    rw [hr]
    unfold chgN
    rw [find_here hu hk hid]
    simp)
  rw [← hr]
  have HUP := Lib.hid (upd_here hu hk hid (frN y.fr) sf tp)
  obtain ⟨⟨Af, cf, hf1, _⟩, _⟩ := h.st.inn
  simp only at hf1
  subst hf1
  obtain ⟨nf, hnf⟩ : ∃ z, z = y.fr.length := ⟨_, rfl⟩
  rw [← hnf] at h HUP ⊢
  clear hnf
  have q16 := h.blk.cell 16
  have q0 := h.blk.cell 0
  have q1 := h.blk.cell 1
  have q4 := h.blk.cell 4
  simp at q16 q0 q1 q4
  have r1 := nd_cell h.own hk 1 _ g1
  have r2 := nd_cell h.own hk 2 _ g2
  have z2 := h.own.frozenAt (k * 13 + 2)
  have HK := Lib.hid hk
  have H := Lib.hid h
  have hk0 : (0 : Int) ≤ (k : Int) := by omega
  have hkn : (k : Int) < (n : Int) := by have := h.num; omega
  clear h hk hid hu g0 g1 g2 g3 g4 g5 g6 g7 g8 g9 g10 g11 g12 hkl hr
  go_enter Try.func32, Try.ntmps32
  go_upto_region 3 with fail
  go_region
  have HQ := Lib.hid q0
  have HWD := Lib.hid (H.out.keep (Fr.refl w.heap.size [] w).drew)
  have F0 := Lib.hid (Fr.refl w.heap.size [gw, gr] w).drew
  replace q1 : w.drew.cell? ⟨gw, 1, none⟩ = some (.int .i64 5) := q1
  replace q4 : w.drew.cell? ⟨gw, 4, none⟩ = some (.slice Af nf cf) := q4
  replace r1 : w.drew.cell? ⟨gr, k * 13 + 1, none⟩ = some (.int .i64 x.kind) := r1
  replace r2 : w.drew.cell? ⟨gr, k * 13 + 2, none⟩ = some tf := r2
  replace z2 : w.drew.frozen? ⟨gr, k * 13 + 2, none⟩ = false := z2
  clear H
  generalize w.drew = wz at *
  by_cases hx : x.kind = 2
  · have HR1 := Lib.hid (show r = (0, updN (fstN M) y.id (frN y.fr)) by rw [HR.out, if_pos hx])
    rw [hx] at r1
    have hwk := HWD.out
    have f2 := (Fr.refl wz.heap.size [gw, gr] wz).setCell (p := ⟨gr, k * 13 + 2, none⟩) (.inr (by simp)) (.slice Af nf cf)
    have HO2 := Lib.hid (nd_set (m' := (frN y.fr x, .slice Af nf cf, tp)) (u := .slice Af nf cf) hwk.own HK.out (j := 2) (by omega) rfl)
    have HB2 := Lib.hid (hwk.blk.far (p := ⟨gr, k * 13 + 2, none⟩) hwk.ne (.slice Af nf cf))
    have HA2 := Lib.hid (show ∀ m' ∈ M.set k (frN y.fr x, .slice Af nf cf, tp), Apart gw gr (wz.setCell ⟨gr, k * 13 + 2, none⟩ (.slice Af nf cf)) m' from fun m' hm' => by
      rcases List.mem_or_eq_of_mem_set hm' with hm' | rfl
      · exact (hwk.each m' hm').keep f2
      · have a := (hwk.each _ (List.mem_of_getElem? HK.out)).keep f2
        have b := hwk.st.keep f2
        exact ⟨⟨b.inn.fr, a.inn.pg⟩, b.r1, a.r2, b.w1, a.w2⟩)
    have F2 := Lib.hid (F0.out.trans (f2.mono (B' := w.heap.size) (L' := [gw, gr]) F0.out.size (by simp)))
    have HN := Lib.hid (show n = (M.set k (frN y.fr x, .slice Af nf cf, tp)).length by rw [List.length_set]; exact hwk.num)
    clear hwk f2 HR HWD F0 hx
    go_wp2_with fail
    go_ret
    rw [HR1.out]
    exact .inr ⟨rfl, rfl, _, n, c, _, HB2.out, HO2.out, HN.out, HA2.out, HUP.out, F2.out⟩
  · have HR1 := Lib.hid (show r = (11, []) by rw [HR.out, if_neg hx])
    have hkb := kd_ne hx
    clear HR hx
    go_wp2_with fail
    go_ret
    rw [HR1.out]
    exact .inl ⟨by simp, rfl, F0.out⟩
set_option maxRecDepth 100000 in
set_option maxHeartbeats 4000000 in
theorem change_route (gw gr n c k : Nat) (y : Nd) (rs : Bool) (sf sp : Value) (M : List Ndm) (m : Ndm) (w : World) (h : Wk gw gr n c 4 y rs sf sp k M w) (hk : M[k]? = some m) (hid : m.1.id = y.id) (hu : (idsN (fstN M)).Nodup) :
    Calls Try.prog 32 #[.pointer (some ⟨gw, 0, none⟩)] w (ChgOut (chgN (fstN M) ⟨4, y, rs⟩) 4 y rs sf sp k gw gr w) := by
  have hkl : k < M.length := (List.getElem?_eq_some_iff.1 hk).1
  obtain ⟨x, tf, tp⟩ := m
  simp only at hid
  obtain ⟨g0, g1, g2, g3, g4, g5, g6, g7, g8, g9, g10, g11, g12⟩ := ndL_get (x, tf, tp)
  obtain ⟨r, hr⟩ : ∃ r, r = chgN (fstN M) ⟨4, y, rs⟩ := ⟨_, rfl⟩
  have HR := Lib.hid (show r = if x.kind = 0 then (11, []) else (0, updN (fstN M) y.id (rtN y.par y.rt)) by
    rw [hr]
    unfold chgN
    rw [find_here hu hk hid]
    simp)
  rw [← hr]
  have HUP := Lib.hid (upd_here hu hk hid (rtN y.par y.rt) tf tp)
  have q16 := h.blk.cell 16
  have q0 := h.blk.cell 0
  have q1 := h.blk.cell 1
  have q6 := h.blk.cell 6
  have q7 := h.blk.cell 7
  have q8 := h.blk.cell 8
  have q9 := h.blk.cell 9
  have q10 := h.blk.cell 10
  have q11 := h.blk.cell 11
  have q12 := h.blk.cell 12
  have q13 := h.blk.cell 13
  have q14 := h.blk.cell 14
  simp at q16 q0 q1 q6 q7 q8 q9 q10 q11 q12 q13 q14
  have r1 := nd_cell h.own hk 1 _ g1
  have r4 := nd_cell h.own hk 4 _ g4
  have r5 := nd_cell h.own hk 5 _ g5
  have r6 := nd_cell h.own hk 6 _ g6
  have r7 := nd_cell h.own hk 7 _ g7
  have r8 := nd_cell h.own hk 8 _ g8
  have r9 := nd_cell h.own hk 9 _ g9
  have r10 := nd_cell h.own hk 10 _ g10
  have r11 := nd_cell h.own hk 11 _ g11
  have r12 := nd_cell h.own hk 12 _ g12
  have z4 := h.own.frozenAt (k * 13 + 4)
  have z5 := h.own.frozenAt (k * 13 + 5)
  have z6 := h.own.frozenAt (k * 13 + 6)
  have z7 := h.own.frozenAt (k * 13 + 7)
  have z8 := h.own.frozenAt (k * 13 + 8)
  have z9 := h.own.frozenAt (k * 13 + 9)
  have z10 := h.own.frozenAt (k * 13 + 10)
  have z11 := h.own.frozenAt (k * 13 + 11)
  have z12 := h.own.frozenAt (k * 13 + 12)
  have HK := Lib.hid hk
  have H := Lib.hid h
  have hk0 : (0 : Int) ≤ (k : Int) := by omega
  have hkn : (k : Int) < (n : Int) := by have := h.num; omega
  clear h hk hid hu g0 g1 g2 g3 g4 g5 g6 g7 g8 g9 g10 g11 g12 hkl hr
  go_enter Try.func32, Try.ntmps32
  go_upto_region 3 with fail
  go_region
  have HQ := Lib.hid q0
  have HWD := Lib.hid (H.out.keep (Fr.refl w.heap.size [] w).drew)
  have F0 := Lib.hid (Fr.refl w.heap.size [gw, gr] w).drew
  replace q1 : w.drew.cell? ⟨gw, 1, none⟩ = some (.int .i64 4) := q1
  replace q6 : w.drew.cell? ⟨gw, 6, none⟩ = some (.int .i64 y.par) := q6
  replace q7 : w.drew.cell? ⟨gw, 7, none⟩ = some (.int .i64 (y.rt 0)) := q7
  replace q8 : w.drew.cell? ⟨gw, 8, none⟩ = some (.int .i64 (y.rt 1)) := q8
  replace q9 : w.drew.cell? ⟨gw, 9, none⟩ = some (.int .i64 (y.rt 2)) := q9
  replace q10 : w.drew.cell? ⟨gw, 10, none⟩ = some (.int .i64 (y.rt 3)) := q10
  replace q11 : w.drew.cell? ⟨gw, 11, none⟩ = some (.int .i64 (y.rt 4)) := q11
  replace q12 : w.drew.cell? ⟨gw, 12, none⟩ = some (.int .i64 (y.rt 5)) := q12
  replace q13 : w.drew.cell? ⟨gw, 13, none⟩ = some (.int .i64 (y.rt 6)) := q13
  replace q14 : w.drew.cell? ⟨gw, 14, none⟩ = some (.int .i64 (y.rt 7)) := q14
  replace r1 : w.drew.cell? ⟨gr, k * 13 + 1, none⟩ = some (.int .i64 x.kind) := r1
  replace r4 : w.drew.cell? ⟨gr, k * 13 + 4, none⟩ = some (.int .i64 x.par) := r4
  replace r5 : w.drew.cell? ⟨gr, k * 13 + 5, none⟩ = some (.int .i64 (x.rt 0)) := r5
  replace r6 : w.drew.cell? ⟨gr, k * 13 + 6, none⟩ = some (.int .i64 (x.rt 1)) := r6
  replace r7 : w.drew.cell? ⟨gr, k * 13 + 7, none⟩ = some (.int .i64 (x.rt 2)) := r7
  replace r8 : w.drew.cell? ⟨gr, k * 13 + 8, none⟩ = some (.int .i64 (x.rt 3)) := r8
  replace r9 : w.drew.cell? ⟨gr, k * 13 + 9, none⟩ = some (.int .i64 (x.rt 4)) := r9
  replace r10 : w.drew.cell? ⟨gr, k * 13 + 10, none⟩ = some (.int .i64 (x.rt 5)) := r10
  replace r11 : w.drew.cell? ⟨gr, k * 13 + 11, none⟩ = some (.int .i64 (x.rt 6)) := r11
  replace r12 : w.drew.cell? ⟨gr, k * 13 + 12, none⟩ = some (.int .i64 (x.rt 7)) := r12
  replace z4 : w.drew.frozen? ⟨gr, k * 13 + 4, none⟩ = false := z4
  replace z5 : w.drew.frozen? ⟨gr, k * 13 + 5, none⟩ = false := z5
  replace z6 : w.drew.frozen? ⟨gr, k * 13 + 6, none⟩ = false := z6
  replace z7 : w.drew.frozen? ⟨gr, k * 13 + 7, none⟩ = false := z7
  replace z8 : w.drew.frozen? ⟨gr, k * 13 + 8, none⟩ = false := z8
  replace z9 : w.drew.frozen? ⟨gr, k * 13 + 9, none⟩ = false := z9
  replace z10 : w.drew.frozen? ⟨gr, k * 13 + 10, none⟩ = false := z10
  replace z11 : w.drew.frozen? ⟨gr, k * 13 + 11, none⟩ = false := z11
  replace z12 : w.drew.frozen? ⟨gr, k * 13 + 12, none⟩ = false := z12
  clear H
  generalize w.drew = wz at *
  by_cases hx : x.kind = 0
  · have HR1 := Lib.hid (show r = (11, []) by rw [HR.out, if_pos hx])
    rw [hx] at r1
    clear HR hx
    go_wp2_with fail
    go_ret
    rw [HR1.out]
    exact .inl ⟨by simp, rfl, F0.out⟩
  · have HR1 := Lib.hid (show r = (0, updN (fstN M) y.id (rtN y.par y.rt)) by rw [HR.out, if_neg hx])
    have hkb := kd_ne hx
    have hne := HWD.out.ne
    clear HR hx
    go_upto_region 17 with fail
    go_region
    rw [nest_nine]
    have hwk := HWD.out
    have f2 := fr_setW (B := wz.heap.size) (g := gr) (o := k * 13 + 4) (L := [gw, gr]) (a := wz) (.inr (by simp)) [.int .i64 y.par, .int .i64 (y.rt 0), .int .i64 (y.rt 1), .int .i64 (y.rt 2), .int .i64 (y.rt 3), .int .i64 (y.rt 4), .int .i64 (y.rt 5), .int .i64 (y.rt 6), .int .i64 (y.rt 7)] 0 wz (Fr.refl _ _ _)
    have ho2 := owns_setW (o := k * 13 + 4) [.int .i64 y.par, .int .i64 (y.rt 0), .int .i64 (y.rt 1), .int .i64 (y.rt 2), .int .i64 (y.rt 3), .int .i64 (y.rt 4), .int .i64 (y.rt 5), .int .i64 (y.rt 6), .int .i64 (y.rt 7)] 0 wz _ hwk.own
    rw [← cells_put (m' := (rtN y.par y.rt x, tf, tp)) HK.out 4 [.int .i64 y.par, .int .i64 (y.rt 0), .int .i64 (y.rt 1), .int .i64 (y.rt 2), .int .i64 (y.rt 3), .int .i64 (y.rt 4), .int .i64 (y.rt 5), .int .i64 (y.rt 6), .int .i64 (y.rt 7)] (by simp) rfl] at ho2
    have HO2 := Lib.hid ho2
    have HB2 := Lib.hid (far_setW hwk.ne (k * 13 + 4) [.int .i64 y.par, .int .i64 (y.rt 0), .int .i64 (y.rt 1), .int .i64 (y.rt 2), .int .i64 (y.rt 3), .int .i64 (y.rt 4), .int .i64 (y.rt 5), .int .i64 (y.rt 6), .int .i64 (y.rt 7)] 0 wz hwk.blk)
    obtain ⟨wq, hwq⟩ : ∃ wq, wq = setW wz gr (k * 13 + 4) 0 [.int .i64 y.par, .int .i64 (y.rt 0), .int .i64 (y.rt 1), .int .i64 (y.rt 2), .int .i64 (y.rt 3), .int .i64 (y.rt 4), .int .i64 (y.rt 5), .int .i64 (y.rt 6), .int .i64 (y.rt 7)] := ⟨_, rfl⟩
    rw [← hwq] at f2 HO2 HB2 ⊢
    have HA2 := Lib.hid (show ∀ m' ∈ M.set k (rtN y.par y.rt x, tf, tp), Apart gw gr wq m' from fun m' hm' => by
      rcases List.mem_or_eq_of_mem_set hm' with hm' | rfl
      · exact (hwk.each m' hm').keep f2
      · have a := (hwk.each _ (List.mem_of_getElem? HK.out)).keep f2
        exact ⟨⟨a.inn.fr, a.inn.pg⟩, a.r1, a.r2, a.w1, a.w2⟩)
    have F2 := Lib.hid (F0.out.trans (f2.mono (B' := w.heap.size) (L' := [gw, gr]) F0.out.size (by simp)))
    have HN := Lib.hid (show n = (M.set k (rtN y.par y.rt x, tf, tp)).length by rw [List.length_set]; exact hwk.num)
    clear hwk f2 HWD F0 ho2 hwq
    go_wp2_with fail
    go_ret
    rw [HR1.out]
    exact .inr ⟨rfl, rfl, _, n, c, _, HB2.out, HO2.out, HN.out, fun m hm => (HA2.out m hm).keep (Fr.refl _ _ _).drew, HUP.out, F2.out.drew⟩
end Go.Proofs.Ytfakgidimekikaa
namespace Go.Proofs.Ytfakgidimekikaa
open Go.RowKit Go.Fb
set_option linter.unusedVariables false
theorem slN_of {w : World} {B : Nat} {m : Ndm} (h : NdIn w B m) : SlN m := by
  obtain ⟨⟨A, c, h1, _⟩, ⟨A', c', h3, _⟩⟩ := h
  exact ⟨A, _, c, A', _, c', h1, h3⟩
set_option maxRecDepth 100000 in
set_option maxHeartbeats 4000000 in
theorem change_remove (gw gr n c k : Nat) (y : Nd) (rs : Bool) (sf sp : Value) (M : List Ndm) (m : Ndm) (w : World) (h : Wk gw gr n c 3 y rs sf sp k M w) (hk : M[k]? = some m) (hid : m.1.id = y.id) (hu : (idsN (fstN M)).Nodup) (hs : Small M) (hn : n ≤ 20) :
    Calls Try.prog 32 #[.pointer (some ⟨gw, 0, none⟩)] w (ChgOut (chgN (fstN M) ⟨3, y, rs⟩) 3 y rs sf sp k gw gr w) := by
  have hkl : k < M.length := (List.getElem?_eq_some_iff.1 hk).1
  obtain ⟨x, tf, tp⟩ := m
  simp only at hid
  obtain ⟨g0, g1, g2, g3, g4, g5, g6, g7, g8, g9, g10, g11, g12⟩ := ndL_get (x, tf, tp)
  obtain ⟨r, hr⟩ : ∃ r, r = chgN (fstN M) ⟨3, y, rs⟩ := ⟨_, rfl⟩
  have HR := Lib.hid (show r = if x.kind = 0 ∨ (childN (fstN M) y.id).length ≠ 0 then (11, []) else (0, delN (fstN M) y.id) by
    rw [hr]
    unfold chgN
    rw [find_here hu hk hid]
    simp)
  rw [← hr]
  have HUP := Lib.hid (del_here hu hk hid)
  have q16 := h.blk.cell 16
  have q0 := h.blk.cell 0
  have q1 := h.blk.cell 1
  simp at q16 q0 q1
  have r1 := nd_cell h.own hk 1 _ g1
  have r0 := nd_cell h.own hk 0 _ g0
  simp only [Nat.add_zero] at r0
  rw [hid] at r0
  have HK := Lib.hid hk
  have HKL := Lib.hid hkl
  have H := Lib.hid h
  have HS := Lib.hid hs
  have HNM := Lib.hid h.num
  have hk0 : (0 : Int) ≤ (k : Int) := by omega
  have hkn : (k : Int) < (n : Int) := by have := h.num; omega
  clear h hk hid hu g0 g1 g2 g3 g4 g5 g6 g7 g8 g9 g10 g11 g12 hkl hr hs
  go_enter Try.func32, Try.ntmps32
  go_upto_region 3 with fail
  go_region
  have HQ := Lib.hid q0
  have HWD := Lib.hid (H.out.keep (Fr.refl w.heap.size [] w).drew)
  have F0 := Lib.hid (Fr.refl w.heap.size [gw, gr] w).drew
  replace q1 : w.drew.cell? ⟨gw, 1, none⟩ = some (.int .i64 3) := q1
  replace q0 : w.drew.cell? ⟨gw, 0, none⟩ = some (.slice (some ⟨gr, 0, none⟩) n c) := q0
  replace q16 : w.drew.cell? ⟨gw, 16, none⟩ = some (.int .i64 k) := q16
  replace r1 : w.drew.cell? ⟨gr, k * 13 + 1, none⟩ = some (.int .i64 x.kind) := r1
  replace r0 : w.drew.cell? ⟨gr, k * 13, none⟩ = some (.int .i64 y.id) := r0
  clear H
  generalize w.drew = wz at *
  by_cases hx : x.kind = 0
  · have HR1 := Lib.hid (show r = (11, []) by rw [HR.out, if_pos (.inl hx)])
    rw [hx] at r1
    clear HR hx
    go_upto_region 11 with fail
    go_region
    go_wp2_with fail
    go_ret
    rw [HR1.out]
    exact .inl ⟨by simp, rfl, F0.out.drew⟩
  · have hkb := kd_ne hx
    obtain ⟨q, hq⟩ : ∃ q, q = (childN (fstN M) y.id).length := ⟨_, rfl⟩
    have HR2 := Lib.hid (show r = if q ≠ 0 then (11, []) else (0, delN (fstN M) y.id) by
      rw [HR.out, hq]
      by_cases h0 : (childN (fstN M) y.id).length ≠ 0
      · rw [if_pos (.inr h0), if_pos h0]
      · rw [if_neg h0, if_neg (by rintro (h | h) <;> contradiction)])
    have hq1 : q ≤ 1000 := by
      rw [hq]
      have := kidsN_le (fstN M) y.id []
      have h2 : (childN (fstN M) y.id).length = (kidsN (fstN M) y.id []).length := by unfold childN; rw [srt_len]
      simp at this
      have hl : (fstN M).length = M.length := by simp [fstN]
      have := HNM.out
      omega
    have HCH := Lib.hid (fun (wx : World) (hx : Fr wz.heap.size [] wz wx) => (by
      have hk := HWD.out.keep hx
      refine (children_any y.id (some ⟨gr, 0, none⟩) c wx.heap.size n M wx hk.nds (Nat.le_refl _) HS.out).mono ?_
      rintro e w' ⟨A8, c8, q8, hq8, rfl, _, f8⟩
      obtain rfl : q8 = q := by rw [hq8, hq]; rfl
      exact ⟨A8, c8, rfl, f8⟩ : Calls Try.prog 46 #[.slice (some ⟨gr, 0, none⟩) n c, .int .i64 y.id] wx fun e w' => ∃ A8 c8, e = .returned (.slice A8 q c8) ∧ Fr wx.heap.size [] wx w'))
    have I0 := Lib.hid (Fr.refl wz.heap.size [] wz).drew
    clear HR hx hq
    go_upto_region 11 with fail
    have SS : wz.drew.cell? ⟨gr, k * 13 + 1, none⟩ = some (.int .i64 x.kind) ∧ wz.drew.cell? ⟨gw, 0, none⟩ = some (.slice (some ⟨gr, 0, none⟩) n c) ∧ wz.drew.cell? ⟨gr, k * 13, none⟩ = some (.int .i64 y.id) := ⟨r1, q0, r0⟩
    have hlw := HWD.out.blk.lt
    have hlr := (HWD.out.own.lt gr rfl).2
    go_region_held3 (fun w => w.cell? ⟨gr, k * 13 + 1, none⟩ = some (.int .i64 x.kind) ∧ w.cell? ⟨gw, 0, none⟩ = some (.slice (some ⟨gr, 0, none⟩) n c) ∧ w.cell? ⟨gr, k * 13, none⟩ = some (.int .i64 y.id)) (assumption) ((go_at_call 46; refine (HCH.out _ I0.out).mono ?_; rintro e w1 ⟨A8, c8, rfl, f8⟩; have SS : w1.cell? ⟨gr, k * 13 + 1, none⟩ = some (.int .i64 x.kind) ∧ w1.cell? ⟨gw, 0, none⟩ = some (.slice (some ⟨gr, 0, none⟩) n c) ∧ w1.cell? ⟨gr, k * 13, none⟩ = some (.int .i64 y.id) := ⟨(f8.cell (p := ⟨gr, k * 13 + 1, none⟩) hlr (by simp)).trans r1, (f8.cell (p := ⟨gw, 0, none⟩) hlw (by simp)).trans q0, (f8.cell (p := ⟨gr, k * 13, none⟩) hlr (by simp)).trans r0⟩))
    have HW1 := Lib.hid (HWD.out.keep (I0.out.trans f8))
    have F1 := Lib.hid (F0.out.trans ((I0.out.trans f8).mono (B' := w.heap.size) (L' := [gw, gr]) F0.out.size (by simp)))
    clear f8 SS HWD F0 I0 HCH q0 q1 q16 r0 r1 hlw hlr HQ
    rcases Nat.eq_zero_or_pos q with h0 | h0
    · have HR1 := Lib.hid (show r = (0, delN (fstN M) y.id) by rw [HR2.out, if_neg (by omega)])
      subst h0
      have q1 := HW1.out.blk.cell 1
      have q0 := HW1.out.blk.cell 0
      have q16 := HW1.out.blk.cell 16
      have z0 := HW1.out.blk.frozen 0
      simp at q0 q1 q16
      have HDL := Lib.hid (fun (wx : World) (hx : Fr w1.heap.size [] w1 wx) => ndel_any 0 gr n c k M wx HNM.out (by omega) (by omega) (fun m hm => slN_of (HW1.out.each m hm).inn) (HW1.out.keep hx).own)
      have I1 := Lib.hid (Fr.refl w1.heap.size [] w1).drew
      have hne := HW1.out.ne
      have hlw := HW1.out.blk.lt
      have hlr := (HW1.out.own.lt gr rfl).2
      have hwk : IntKind.i64.wrap ((k : Int) + 1) = (k : Int) + 1 := by rw [IntKind.wrap_i64]; omega
      clear HR2
      go_upto_region 13 with fail
      go_region_law ((rw [if_pos (by rfl)]; go_simp; refine (HDL.out _ I1.out).mono ?_; rintro e w2 ⟨rfl, ho2, f2⟩; have z0 := (f2.frozen (p := ⟨gw, 0, none⟩) hlw (by simpa using hne)).trans z0; have q0 := (f2.cell (p := ⟨gw, 0, none⟩) hlw (by simpa using hne)).trans q0; dsimp only))
      all_goals
        have f12 : Fr w1.heap.size [gr] w1 w2 := (I1.out.mono (Nat.le_refl _) (by simp)).trans f2
        have fz : Fr w1.heap.size [gw, gr] w1 (w2.setCell ⟨gw, 0, none⟩ (.slice (some ⟨gr, 0, none⟩) (n - 1) c)) := (f12.mono (L' := [gw, gr]) (Nat.le_refl _) (by intro q hq _; simp at hq; simp [hq])).setCell (p := ⟨gw, 0, none⟩) (.inr (by simp)) _
        have hb := (HW1.out.blk.fr f12 hlw (by simpa using hne)).set_ 0 (.slice (some ⟨gr, 0, none⟩) (n - 1) c)
        simp only [List.setIfInBounds_toArray, List.set_cons_zero] at hb
        have HB := Lib.hid hb
        have HO := Lib.hid (ownsRow_fr ho2 ((Fr.refl w2.heap.size [gw] w2).setCell (p := ⟨gw, 0, none⟩) (.inr (by simp)) (.slice (some ⟨gr, 0, none⟩) (n - 1) c)) (fun q hq => ⟨(ho2.lt q hq).2, by simp [Value.ownBlock] at hq; simp [← hq]; exact Ne.symm hne⟩))
        have FZ := Lib.hid (F1.out.trans (fz.mono (B' := w.heap.size) (L' := [gw, gr]) F1.out.size (by simp)))
        have HE := Lib.hid (show ∀ m ∈ M.take k ++ M.drop (k + 1), Apart gw gr (w2.setCell ⟨gw, 0, none⟩ (.slice (some ⟨gr, 0, none⟩) (n - 1) c)) m from fun m hm => (HW1.out.each m (by
          rcases List.mem_append.1 hm with h | h
          · exact List.mem_of_mem_take h
          · exact List.mem_of_mem_drop h)).keep fz)
        have HL := Lib.hid (show n - 1 = (M.take k ++ M.drop (k + 1)).length by
          rw [List.length_append, List.length_take, List.length_drop, ← HNM.out]
          omega)
        clear f12 fz hb ho2 f2 z0 q0 q1 q16
        go_wp2_with fail
        go_ret
        rw [HR1.out]
        exact .inr ⟨rfl, rfl, _, n - 1, c, _, HB.out, HO.out, HL.out, HE.out, HUP.out, FZ.out⟩
    · have HR1 := Lib.hid (show r = (11, []) by rw [HR2.out, if_pos (by omega)])
      clear HR2
      go_wp2_with fail
      go_ret
      rw [HR1.out]
      exact .inl ⟨by simp, rfl, F1.out⟩
end Go.Proofs.Ytfakgidimekikaa
